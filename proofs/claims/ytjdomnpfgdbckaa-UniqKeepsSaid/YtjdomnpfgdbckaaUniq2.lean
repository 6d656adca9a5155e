/- Walks of layer 5: Put, and how a table grows. -/
import Derived.Test.YtjdomnpfgdbckaaUniq
namespace Go.Proofs.Ytjdomnpfgdbckaa
open Go Go.Bx
set_option linter.unusedSimpArgs false
set_option linter.unusedVariables false
set_option maxRecDepth 100000
set_option maxHeartbeats 4000000

theorem sumF_next {α : Type} {f : α → Int} {l : List α} {k : Nat} {x : α} (h : l[k]? = some x) : sumF f (l.take (k + 1)) = sumF f (l.take k) + f x := by
  rw [List.take_add_one, h, sumF_app]; simp [sumF]
theorem cnt_le (T : Tb) : 0 ≤ cntT T ∧ cntT T ≤ T.length := by
  refine ⟨sumF_nonneg _ _ fun x _ => (b2_rng _).1, ?_⟩
  have := sumF_le (fun o : Option (Ky × Int) => b2 o.isSome) 1 T fun x _ => (b2_rng _).2
  unfold cntT; omega
theorem finds_lt {T : Tb} {k : Ky} {i : Nat} (h : Finds homeN T k i) : i < T.length := by
  obtain ⟨d, hd, he, _⟩ := h
  rw [he]; exact cyc_lt (homeN_lt k _ (by omega)) (by omega)
theorem inv_rep {n : Nat} (h : 0 < n) : TbInv homeN (List.replicate n none) := by
  have hn : ∀ p, occ (List.replicate n none) p = none := by
    intro p; unfold occ; rw [List.getElem?_replicate]; split <;> rfl
  exact ⟨by simpa using h, fun p k v hp => (by rw [hn] at hp; cases hp), fun p p' k v v' hp => (by rw [hn] at hp; cases hp)⟩
theorem UqI.row {w : World} {p g : Nat} {many : Int} {T : Tb} (h : UqI w p g many T) {i : Nat} (hi : i < T.length) (o : Option (Ky × Int)) : UqI (upd w g (.cells (tbL (T.set i o)).toArray 138)) p g many (T.set i o) :=
  ⟨by rw [upd_other h.ne.symm, List.length_set]; exact h.at_, upd_same (lt_of_heap h.sl), by rw [List.length_set]; exact h.pw, by rw [List.length_set]; exact h.pos, by rw [List.length_set]; exact h.lim⟩
theorem UqI.setm {w : World} {p g : Nat} {many m : Int} {T : Tb} (h : UqI w p g many T) : UqI (upd w p (.cells #[.slice (some ⟨g, 0, none⟩) T.length T.length, .int .i64 m] 134)) p g m T :=
  ⟨upd_same (lt_of_heap h.at_), by rw [upd_other h.ne]; exact h.sl, h.pw, h.pos, h.lim⟩

theorem ugrow_calls {w : World} {p g : Nat} {many : Int} {T : Tb} (h : UqI w p g many T) (I : TbInv homeN T) (hlim2 : 2 * T.length ≤ 1073741824) :
    CallsR Try.prog 87 #[.pointer (some ⟨p, 0, none⟩)] w fun r w' => ∃ g' T', UqI w' p g' many T' ∧ T'.length = 2 * T.length ∧ TbInv homeN T' ∧ (∀ k v, MemT T' k v ↔ MemT T k v) ∧ cntT T' = cntT T ∧ Chg (fun x => x = p) w w' ∧ w.heap.size ≤ g' := by
  have hp := h.at_
  have hpos := h.pos
  have hlim := h.lim
  have hgl := lt_of_heap h.sl
  have hpl := lt_of_heap hp
  have hms := ms_slots (w := w) (n := 2 * T.length) (by omega)
  have e2 : (((2 * T.length : Nat)) : Int) = 2 * (T.length : Int) := by omega
  rw [e2] at hms
  have hsz2 : (#[.slice (some ⟨g, 0, none⟩) T.length T.length, .int .i64 many] : Array Value).size = 2 := rfl
  refine calls1 (bs := []) Try.func87 rfl mixed (by kernel_rfl) ?_
  intro e0 h0
  simp only [comp, gop, gslot, dops, bigOf, setK, drawOf, dopsW, setW, kindOf, List.lookup, List.map_cons, List.map_nil, Option.bind_some, List.getElem?_toArray, List.getElem?_cons_zero, List.getElem?_cons_succ, Option.getD_some, Option.getD_none, List.contains_nil, List.contains_cons, Bool.false_eq_true, ↓reduceIte, Nat.reduceAdd, Nat.reduceBEq, Bool.or_false]
  refine X_seq fun K hK => ?_
  simp only [X_reg, thenX_normal]
  repeat (first | (refine xo (by simp (disch := first | assumption | omega | (with_unfolding_all exact id rfl) | exact Nat.le_of_ble_eq_true rfl | fail) only [Bool.not_true, Bool.not_false, vR_ok, uR_ok, ev_tmp, ev_const, ev_func, Env.put_some, Env.put_none, Env.set_app, Nat.reduceEqDiff, ↓reduceIte, rG_move, rG_assign, opt1_some, ext_all, dec_t, dec_f, beq_t, beq_f, bne_t, bne_f, wrap_i64, wrap_u64, Int.toNat_natCast, Nat.mul_one, Nat.zero_add, Nat.add_zero, List.map_toArray, List.map_cons, List.map_nil, rG_load, ld136, List.getElem?_toArray, List.getElem?_cons_zero, List.getElem?_cons_succ, ldN_some, rdN_cells, rG_binOp, binR_add, rG_makeSlice, binR_lss, rG_fieldAddr, fa138_0, resM_0, ld4, ld1_some, rd1_cells, ld132, ld138, rG_nilCheck, nilR_ptr, binR_mul, rG_store, st132, stN_1, stN_2, stN_3, stN_4, stN_5, stN_6, stN_7, stN_8, vcs_int, vcs_bool, vcs_ptr, vcs_slice, vcs_map, vcs_nil, vcs_iface, vcs_aggL, List.length_cons, List.length_nil, Nat.reduceAdd, st138, fa138_2, call86, rG_len, ln132, rG_indexAddr, ia132, rG_alloc_138, Value.cells, fa134_0, h0, hp] <;> rfl) ?_; first | with_reducible refine kv ?_ | with_reducible refine ks ?_ | with_reducible refine ke ?_) | (refine xo_t ?_ ?_; focus (simp (disch := first | assumption | omega | (with_unfolding_all exact id rfl) | exact Nat.le_of_ble_eq_true rfl | fail) only [Env.put_some, Env.put_none, Env.set_app, Nat.reduceEqDiff, ↓reduceIte, Bool.not_true, Bool.not_false, h0, hp]; done)) | (refine xo_f ?_ ?_; focus (simp (disch := first | assumption | omega | (with_unfolding_all exact id rfl) | exact Nat.le_of_ble_eq_true rfl | fail) only [Env.put_some, Env.put_none, Env.set_app, Nat.reduceEqDiff, ↓reduceIte, Bool.not_true, Bool.not_false, h0, hp]; done)) | (refine xo_u ?_ ?_; focus (simp (disch := first | assumption | omega | (with_unfolding_all exact id rfl) | exact Nat.le_of_ble_eq_true rfl | fail) only [Env.put_some, Env.put_none, Env.set_app, Nat.reduceEqDiff, ↓reduceIte, Bool.not_true, Bool.not_false, h0, hp]; done)))
  refine xo_nil ?_
  refine hK _ _ ?_
  clear hK K
  have hpA : (w.alloc (.cells (tbL (List.replicate (2 * T.length) none)).toArray 138)).heap[p]? = some (.cells #[.slice (some ⟨g, 0, none⟩) T.length T.length, .int .i64 many] 134) := by rw [alloc_old (by omega)]; exact hp
  refine X_seq fun K hK => ?_
  simp only [X_reg, thenX_normal]
  repeat (first | (refine xo (by simp (disch := first | assumption | omega | (with_unfolding_all exact id rfl) | exact Nat.le_of_ble_eq_true rfl | fail) only [Bool.not_true, Bool.not_false, vR_ok, uR_ok, ev_tmp, ev_const, ev_func, Env.put_some, Env.put_none, Env.set_app, Nat.reduceEqDiff, ↓reduceIte, rG_move, rG_assign, opt1_some, ext_all, dec_t, dec_f, beq_t, beq_f, bne_t, bne_f, wrap_i64, wrap_u64, Int.toNat_natCast, Nat.mul_one, Nat.zero_add, Nat.add_zero, List.map_toArray, List.map_cons, List.map_nil, rG_load, ld136, List.getElem?_toArray, List.getElem?_cons_zero, List.getElem?_cons_succ, ldN_some, rdN_cells, rG_binOp, binR_add, rG_makeSlice, binR_lss, rG_fieldAddr, fa138_0, resM_0, ld4, ld1_some, rd1_cells, ld132, ld138, rG_nilCheck, nilR_ptr, binR_mul, rG_store, st132, stN_1, stN_2, stN_3, stN_4, stN_5, stN_6, stN_7, stN_8, vcs_int, vcs_bool, vcs_ptr, vcs_slice, vcs_map, vcs_nil, vcs_iface, vcs_aggL, List.length_cons, List.length_nil, Nat.reduceAdd, st138, fa138_2, call86, rG_len, ln132, rG_indexAddr, ia132, rG_alloc_138, Value.cells, fa134_0, h0, hms, hpA, List.setIfInBounds_toArray, List.set_cons_zero, List.set_cons_succ] <;> rfl) ?_; first | with_reducible refine kv ?_ | with_reducible refine ks ?_ | with_reducible refine ke ?_) | (refine xo_t ?_ ?_; focus (simp (disch := first | assumption | omega | (with_unfolding_all exact id rfl) | exact Nat.le_of_ble_eq_true rfl | fail) only [Env.put_some, Env.put_none, Env.set_app, Nat.reduceEqDiff, ↓reduceIte, Bool.not_true, Bool.not_false, h0, hms, hpA, List.setIfInBounds_toArray, List.set_cons_zero, List.set_cons_succ]; done)) | (refine xo_f ?_ ?_; focus (simp (disch := first | assumption | omega | (with_unfolding_all exact id rfl) | exact Nat.le_of_ble_eq_true rfl | fail) only [Env.put_some, Env.put_none, Env.set_app, Nat.reduceEqDiff, ↓reduceIte, Bool.not_true, Bool.not_false, h0, hms, hpA, List.setIfInBounds_toArray, List.set_cons_zero, List.set_cons_succ]; done)) | (refine xo_u ?_ ?_; focus (simp (disch := first | assumption | omega | (with_unfolding_all exact id rfl) | exact Nat.le_of_ble_eq_true rfl | fail) only [Env.put_some, Env.put_none, Env.set_app, Nat.reduceEqDiff, ↓reduceIte, Bool.not_true, Bool.not_false, h0, hms, hpA, List.setIfInBounds_toArray, List.set_cons_zero, List.set_cons_succ]; done)))
  refine xo_nil ?_
  refine hK _ _ ?_
  clear hK K
  obtain ⟨g', hg'⟩ : ∃ g', w.heap.size = g' := ⟨_, rfl⟩
  have hgp : g' ≠ p := by omega
  have hgg : g' ≠ g := by omega
  have hU1 : UqI (upd (w.alloc (.cells (tbL (List.replicate (2 * T.length) none)).toArray 138)) p (.cells #[.slice (some ⟨g', 0, none⟩) (2 * T.length) (2 * T.length), .int .i64 many] 134)) p g' many (List.replicate (2 * T.length) none) := by
    refine ⟨?_, ?_, ?_, ?_, ?_⟩
    · rw [List.length_replicate]; exact upd_same (by rw [alloc_size]; omega)
    · rw [upd_other hgp.symm, ← hg']; exact alloc_new
    · obtain ⟨m, h1, h2⟩ := h.pw
      exact ⟨m + 1, by rw [List.length_replicate, h1, Nat.pow_succ, Nat.mul_comm], by omega⟩
    · rw [List.length_replicate]; omega
    · rw [List.length_replicate]; omega
  have hS1 : (upd (w.alloc (.cells (tbL (List.replicate (2 * T.length) none)).toArray 138)) p (.cells #[.slice (some ⟨g', 0, none⟩) (2 * T.length) (2 * T.length), .int .i64 many] 134)).heap[g]? = some (.cells (tbL T).toArray 138) := by
    rw [upd_other h.ne, alloc_old (by omega)]; exact h.sl
  have hC1 : Chg (fun x => x = p) w (upd (w.alloc (.cells (tbL (List.replicate (2 * T.length) none)).toArray 138)) p (.cells #[.slice (some ⟨g', 0, none⟩) (2 * T.length) (2 * T.length), .int .i64 many] 134)) := ((Chg.refl (fun x => x = p) w).alloc _).upd (fun _ => rfl) _
  have hd2 : ((2 * (T.length : Int))).toNat = 2 * T.length := by omega
  try rw [hg']
  generalize upd (w.alloc (.cells (tbL (List.replicate (2 * T.length) none)).toArray 138)) p (.cells #[.slice (some ⟨g', 0, none⟩) (2 * T.length) (2 * T.length), .int .i64 many] 134) = w1 at hU1 hS1 hC1 ⊢
  refine X_seq fun K hK => ?_
  simp only [X_reg, thenX_normal]
  repeat (first | (refine xo (by simp (disch := first | assumption | omega | (with_unfolding_all exact id rfl) | exact Nat.le_of_ble_eq_true rfl | fail) only [Bool.not_true, Bool.not_false, vR_ok, uR_ok, ev_tmp, ev_const, ev_func, Env.put_some, Env.put_none, Env.set_app, Nat.reduceEqDiff, ↓reduceIte, rG_move, rG_assign, opt1_some, ext_all, dec_t, dec_f, beq_t, beq_f, bne_t, bne_f, wrap_i64, wrap_u64, Int.toNat_natCast, Nat.mul_one, Nat.zero_add, Nat.add_zero, List.map_toArray, List.map_cons, List.map_nil, rG_load, ld136, List.getElem?_toArray, List.getElem?_cons_zero, List.getElem?_cons_succ, ldN_some, rdN_cells, rG_binOp, binR_add, rG_makeSlice, binR_lss, rG_fieldAddr, fa138_0, resM_0, ld4, ld1_some, rd1_cells, ld132, ld138, rG_nilCheck, nilR_ptr, binR_mul, rG_store, st132, stN_1, stN_2, stN_3, stN_4, stN_5, stN_6, stN_7, stN_8, vcs_int, vcs_bool, vcs_ptr, vcs_slice, vcs_map, vcs_nil, vcs_iface, vcs_aggL, List.length_cons, List.length_nil, Nat.reduceAdd, st138, fa138_2, call86, rG_len, ln132, rG_indexAddr, ia132, rG_alloc_138, Value.cells, fa134_0] <;> rfl) ?_; first | with_reducible refine kv ?_ | with_reducible refine ks ?_ | with_reducible refine ke ?_) | (refine xo_t ?_ ?_; focus (simp (disch := first | assumption | omega | (with_unfolding_all exact id rfl) | exact Nat.le_of_ble_eq_true rfl | fail) only [Env.put_some, Env.put_none, Env.set_app, Nat.reduceEqDiff, ↓reduceIte, Bool.not_true, Bool.not_false]; done)) | (refine xo_f ?_ ?_; focus (simp (disch := first | assumption | omega | (with_unfolding_all exact id rfl) | exact Nat.le_of_ble_eq_true rfl | fail) only [Env.put_some, Env.put_none, Env.set_app, Nat.reduceEqDiff, ↓reduceIte, Bool.not_true, Bool.not_false]; done)) | (refine xo_u ?_ ?_; focus (simp (disch := first | assumption | omega | (with_unfolding_all exact id rfl) | exact Nat.le_of_ble_eq_true rfl | fail) only [Env.put_some, Env.put_none, Env.set_app, Nat.reduceEqDiff, ↓reduceIte, Bool.not_true, Bool.not_false]; done)))
  refine xo_nil ?_
  refine hK _ _ ?_
  clear hK K
  simp only [X_skip, X_exit, X_ret, X_block, thenX_normal, thenX_ret, thenX_exit, inX_normal, inX_ret, inX_exit, ↓reduceIte, Nat.reduceEqDiff]
  refine X_loop (fun e w' => ∃ j : Nat, ∃ Tn : Tb, j ≤ T.length ∧ e 18 = .int .i64 j ∧ e 17 = .int .i64 (T.length : Nat) ∧ e 16 = .slice (some ⟨g, 0, none⟩) T.length T.length ∧ e 0 = .pointer (some ⟨p, 0, none⟩) ∧ UqI w' p g' many Tn ∧ Tn.length = 2 * T.length ∧ TbInv homeN Tn ∧ (∀ k v, MemT Tn k v ↔ ∃ q, q < j ∧ occ T q = some (k, v)) ∧ cntT Tn = cntT (T.take j) ∧ w'.heap[g]? = some (.cells (tbL T).toArray 138) ∧ Chg (fun x => x = p) w w') (fun e _ => T.length - nat (e 18)) ?_ ?_
  · refine ⟨0, _, by omega, ?_, ?_, ?_, ?_, hU1, by simp, inv_rep (by omega), fun k v => ?_, ?_, hS1, hC1⟩
    · (try simp (disch := first | assumption | omega | (with_unfolding_all exact id rfl) | exact Nat.le_of_ble_eq_true rfl | fail) only [Env.put_some, Env.put_none, Env.set_app, Nat.reduceEqDiff, ↓reduceIte, nat_int, Int.toNat_natCast, wrap_i64])
      rfl
    · (try simp (disch := first | assumption | omega | (with_unfolding_all exact id rfl) | exact Nat.le_of_ble_eq_true rfl | fail) only [Env.put_some, Env.put_none, Env.set_app, Nat.reduceEqDiff, ↓reduceIte, nat_int, Int.toNat_natCast, wrap_i64])
    · (try simp (disch := first | assumption | omega | (with_unfolding_all exact id rfl) | exact Nat.le_of_ble_eq_true rfl | fail) only [Env.put_some, Env.put_none, Env.set_app, Nat.reduceEqDiff, ↓reduceIte, nat_int, Int.toNat_natCast, wrap_i64])
    · (try simp (disch := first | assumption | omega | (with_unfolding_all exact id rfl) | exact Nat.le_of_ble_eq_true rfl | fail) only [Env.put_some, Env.put_none, Env.set_app, Nat.reduceEqDiff, ↓reduceIte, nat_int, Int.toNat_natCast, wrap_i64, h0])
    · constructor
      · rintro ⟨q, hq⟩
        unfold occ at hq; rw [List.getElem?_replicate] at hq; split at hq <;> cases hq
      · rintro ⟨q, hq, _⟩; omega
    · rw [cnt_rep]; rfl
  · clear h0 hp hpA hms hU1 hS1 hC1 hpl hsz2
    clear w1
    rintro e w1 ⟨j, Tn, hj, h18, h17, h16, h0, hU, hTl, hI, hM, hcn, hS, hC⟩
    by_cases hlt : j < T.length
    · have hn18 : nat (e 18) = j := by rw [h18, nat_int]; omega
      have hlt' : (j : Int) < T.length := by omega
      have htl : (tbL T).toArray.size = T.length * 4 := by simp [tbL_len]; omega
      have hszr : j * 4 + 4 ≤ (tbL T).toArray.size := by omega
      have hrow := tbL_row hlt
      have hoj := occ_get hlt
      obtain ⟨o, ho⟩ : ∃ o, occ T j = o := ⟨_, rfl⟩
      rw [ho] at hrow hoj
      have hcn1 : cntT (T.take (j + 1)) = cntT (T.take j) + b2 o.isSome := sumF_next hoj
      obtain ⟨a, b, c, d, hce, hd⟩ : ∃ a b c d, ceO o = [a, b, c, d] ∧ d = .bool o.isSome := by
        rcases o with _ | ⟨⟨x, y⟩, z⟩ <;> exact ⟨_, _, _, _, rfl, rfl⟩
      have hcell : (vcs (.agg #[a, b, c, d])).all isCell = true := by
        show ([a, b, c, d] : List Value).all isCell = true
        rw [← hce]; rcases o with _ | ⟨⟨x, y⟩, z⟩ <;> rfl
      rw [hce] at hrow
      refine X_seq fun K hK => ?_
      simp only [X_reg, thenX_normal]
      repeat (first | (refine xo (by simp (disch := first | assumption | omega | (with_unfolding_all exact id rfl) | exact Nat.le_of_ble_eq_true rfl | fail) only [Bool.not_true, Bool.not_false, vR_ok, uR_ok, ev_tmp, ev_const, ev_func, Env.put_some, Env.put_none, Env.set_app, Nat.reduceEqDiff, ↓reduceIte, rG_move, rG_assign, opt1_some, ext_all, dec_t, dec_f, beq_t, beq_f, bne_t, bne_f, wrap_i64, wrap_u64, Int.toNat_natCast, Nat.mul_one, Nat.zero_add, Nat.add_zero, List.map_toArray, List.map_cons, List.map_nil, rG_load, ld136, List.getElem?_toArray, List.getElem?_cons_zero, List.getElem?_cons_succ, ldN_some, rdN_cells, rG_binOp, binR_add, rG_makeSlice, binR_lss, rG_fieldAddr, fa138_0, resM_0, ld4, ld1_some, rd1_cells, ld132, ld138, rG_nilCheck, nilR_ptr, binR_mul, rG_store, st132, stN_1, stN_2, stN_3, stN_4, stN_5, stN_6, stN_7, stN_8, vcs_int, vcs_bool, vcs_ptr, vcs_slice, vcs_map, vcs_nil, vcs_iface, vcs_aggL, List.length_cons, List.length_nil, Nat.reduceAdd, st138, fa138_2, call86, rG_len, ln132, rG_indexAddr, ia132, rG_alloc_138, Value.cells, fa134_0, h18, h17] <;> rfl) ?_; first | with_reducible refine kv ?_ | with_reducible refine ks ?_ | with_reducible refine ke ?_) | (refine xo_t ?_ ?_; focus (simp (disch := first | assumption | omega | (with_unfolding_all exact id rfl) | exact Nat.le_of_ble_eq_true rfl | fail) only [Env.put_some, Env.put_none, Env.set_app, Nat.reduceEqDiff, ↓reduceIte, Bool.not_true, Bool.not_false, h18, h17]; done)) | (refine xo_f ?_ ?_; focus (simp (disch := first | assumption | omega | (with_unfolding_all exact id rfl) | exact Nat.le_of_ble_eq_true rfl | fail) only [Env.put_some, Env.put_none, Env.set_app, Nat.reduceEqDiff, ↓reduceIte, Bool.not_true, Bool.not_false, h18, h17]; done)) | (refine xo_u ?_ ?_; focus (simp (disch := first | assumption | omega | (with_unfolding_all exact id rfl) | exact Nat.le_of_ble_eq_true rfl | fail) only [Env.put_some, Env.put_none, Env.set_app, Nat.reduceEqDiff, ↓reduceIte, Bool.not_true, Bool.not_false, h18, h17]; done)))
      refine xo_nil ?_
      refine hK _ _ ?_
      clear hK K
      refine X_seq fun K hK => ?_
      refine X_if_t (by simp (disch := first | assumption | omega) only [ev_tmp, Env.put_some, Env.put_none, Env.set_app, Nat.reduceEqDiff, ↓reduceIte, beq_t, dec_t, beq_self_eq_true]) ?_
      simp only [X_skip, X_exit, X_ret, X_block, thenX_normal, thenX_ret, thenX_exit, inX_normal, inX_ret, inX_exit, ↓reduceIte, Nat.reduceEqDiff]
      (try refine xo_nil ?_)
      refine hK _ _ ?_
      clear hK K
      refine X_seq fun K hK => ?_
      simp only [X_skip, X_exit, X_ret, X_block, thenX_normal, thenX_ret, thenX_exit, inX_normal, inX_ret, inX_exit, ↓reduceIte, Nat.reduceEqDiff]
      refine X_seq fun K hK => ?_
      (try simp only [X_reg, thenX_normal])
      repeat (first | (refine xo (by simp (disch := first | assumption | omega | (with_unfolding_all exact id rfl) | exact Nat.le_of_ble_eq_true rfl | fail) only [Bool.not_true, Bool.not_false, vR_ok, uR_ok, ev_tmp, ev_const, ev_func, Env.put_some, Env.put_none, Env.set_app, Nat.reduceEqDiff, ↓reduceIte, rG_move, rG_assign, opt1_some, ext_all, dec_t, dec_f, beq_t, beq_f, bne_t, bne_f, wrap_i64, wrap_u64, Int.toNat_natCast, Nat.mul_one, Nat.zero_add, Nat.add_zero, List.map_toArray, List.map_cons, List.map_nil, rG_load, ld136, List.getElem?_toArray, List.getElem?_cons_zero, List.getElem?_cons_succ, ldN_some, rdN_cells, rG_binOp, binR_add, rG_makeSlice, binR_lss, rG_fieldAddr, fa138_0, resM_0, ld4, ld1_some, rd1_cells, ld132, ld138, rG_nilCheck, nilR_ptr, binR_mul, rG_store, st132, stN_1, stN_2, stN_3, stN_4, stN_5, stN_6, stN_7, stN_8, vcs_int, vcs_bool, vcs_ptr, vcs_slice, vcs_map, vcs_nil, vcs_iface, vcs_aggL, List.length_cons, List.length_nil, Nat.reduceAdd, st138, fa138_2, call86, rG_len, ln132, rG_indexAddr, ia132, rG_alloc_138, Value.cells, fa134_0, h16, h18, hS, hrow] <;> rfl) ?_; first | with_reducible refine kv ?_ | with_reducible refine ks ?_ | with_reducible refine ke ?_) | (refine xo_t ?_ ?_; focus (simp (disch := first | assumption | omega | (with_unfolding_all exact id rfl) | exact Nat.le_of_ble_eq_true rfl | fail) only [Env.put_some, Env.put_none, Env.set_app, Nat.reduceEqDiff, ↓reduceIte, Bool.not_true, Bool.not_false, h16, h18, hS, hrow]; done)) | (refine xo_f ?_ ?_; focus (simp (disch := first | assumption | omega | (with_unfolding_all exact id rfl) | exact Nat.le_of_ble_eq_true rfl | fail) only [Env.put_some, Env.put_none, Env.set_app, Nat.reduceEqDiff, ↓reduceIte, Bool.not_true, Bool.not_false, h16, h18, hS, hrow]; done)) | (refine xo_u ?_ ?_; focus (simp (disch := first | assumption | omega | (with_unfolding_all exact id rfl) | exact Nat.le_of_ble_eq_true rfl | fail) only [Env.put_some, Env.put_none, Env.set_app, Nat.reduceEqDiff, ↓reduceIte, Bool.not_true, Bool.not_false, h16, h18, hS, hrow]; done)))
      refine xo (rG_store_new (w := w1) (cs := #[.int .i64 0, .int .i64 0, .int .i64 0, .bool false]) (E := 138) (v := .agg #[a, b, c, d]) (TI.mk' (sz := 4) (by_ := 32) (z := Value.agg #[Value.int IntKind.i64 0, Value.int IntKind.i64 0, Value.int IntKind.i64 0, Value.bool false]) Try.underlying138 (by kernel_rfl)) (by simp (disch := first | assumption | omega) only [ev_tmp, ev_const, Env.put_some, Env.put_none, Env.set_app, Nat.reduceEqDiff, ↓reduceIte]) (by simp (disch := first | assumption | omega) only [ev_tmp, ev_const, Env.put_some, Env.put_none, Env.set_app, Nat.reduceEqDiff, ↓reduceIte]) rfl hcell rfl) ?_
      refine ks ?_
      (try refine xo_nil ?_)
      refine hK _ _ ?_
      clear hK K
      have hE2 := (Ext.refl w1).alloc (.cells ((Value.agg #[a, b, c, d]).cells) 138)
      have hb2 : (w1.alloc (.cells ((Value.agg #[a, b, c, d]).cells) 138)).heap[w1.heap.size]? = some (.cells #[a, b, c, d] 138) := alloc_new
      generalize hw2 : w1.alloc (.cells ((Value.agg #[a, b, c, d]).cells) 138) = w2 at hE2 hb2 ⊢
      clear hw2
      have hU2 := hU.ext hE2
      have hS2 := hE2.at hS
      have hC2 := hC.trans (hE2.chg (fun _ => False)) (fun _ _ h => h.elim)
      have hgl1 : g < w1.heap.size := lt_of_heap hS
      have hgl1' : g' < w1.heap.size := lt_of_heap hU.sl
      have hpl1 : p < w1.heap.size := lt_of_heap hU.at_
      obtain ⟨nb, hnb⟩ : ∃ nb, w1.heap.size = nb := ⟨_, rfl⟩
      rw [hnb] at hb2 hgl1 hgl1' hpl1 ⊢
      rcases o with _ | ⟨⟨x, y⟩, z⟩
      · have hd' : d = .bool false := hd
        subst hd'
        refine X_seq fun K hK => ?_
        simp only [X_reg, thenX_normal]
        repeat (first | (refine xo (by simp (disch := first | assumption | omega | (with_unfolding_all exact id rfl) | exact Nat.le_of_ble_eq_true rfl | fail) only [Bool.not_true, Bool.not_false, vR_ok, uR_ok, ev_tmp, ev_const, ev_func, Env.put_some, Env.put_none, Env.set_app, Nat.reduceEqDiff, ↓reduceIte, rG_move, rG_assign, opt1_some, ext_all, dec_t, dec_f, beq_t, beq_f, bne_t, bne_f, wrap_i64, wrap_u64, Int.toNat_natCast, Nat.mul_one, Nat.zero_add, Nat.add_zero, List.map_toArray, List.map_cons, List.map_nil, rG_load, ld136, List.getElem?_toArray, List.getElem?_cons_zero, List.getElem?_cons_succ, ldN_some, rdN_cells, rG_binOp, binR_add, rG_makeSlice, binR_lss, rG_fieldAddr, fa138_0, resM_0, ld4, ld1_some, rd1_cells, ld132, ld138, rG_nilCheck, nilR_ptr, binR_mul, rG_store, st132, stN_1, stN_2, stN_3, stN_4, stN_5, stN_6, stN_7, stN_8, vcs_int, vcs_bool, vcs_ptr, vcs_slice, vcs_map, vcs_nil, vcs_iface, vcs_aggL, List.length_cons, List.length_nil, Nat.reduceAdd, st138, fa138_2, call86, rG_len, ln132, rG_indexAddr, ia132, rG_alloc_138, Value.cells, fa134_0, hb2] <;> rfl) ?_; first | with_reducible refine kv ?_ | with_reducible refine ks ?_ | with_reducible refine ke ?_) | (refine xo_t ?_ ?_; focus (simp (disch := first | assumption | omega | (with_unfolding_all exact id rfl) | exact Nat.le_of_ble_eq_true rfl | fail) only [Env.put_some, Env.put_none, Env.set_app, Nat.reduceEqDiff, ↓reduceIte, Bool.not_true, Bool.not_false, hb2]; done)) | (refine xo_f ?_ ?_; focus (simp (disch := first | assumption | omega | (with_unfolding_all exact id rfl) | exact Nat.le_of_ble_eq_true rfl | fail) only [Env.put_some, Env.put_none, Env.set_app, Nat.reduceEqDiff, ↓reduceIte, Bool.not_true, Bool.not_false, hb2]; done)) | (refine xo_u ?_ ?_; focus (simp (disch := first | assumption | omega | (with_unfolding_all exact id rfl) | exact Nat.le_of_ble_eq_true rfl | fail) only [Env.put_some, Env.put_none, Env.set_app, Nat.reduceEqDiff, ↓reduceIte, Bool.not_true, Bool.not_false, hb2]; done)))
        refine xo_nil ?_
        refine hK _ _ ?_
        clear hK K
        refine X_if_f (by simp (disch := first | assumption | omega) only [ev_tmp, Env.put_some, Env.put_none, Env.set_app, Nat.reduceEqDiff, ↓reduceIte, beq_f, dec_f]) ?_
        simp only [X_skip, X_exit, X_ret, X_block, thenX_normal, thenX_ret, thenX_exit, inX_normal, inX_ret, inX_exit, ↓reduceIte, Nat.reduceEqDiff]
        (try refine xo_nil ?_)
        refine hK _ _ ?_
        clear hK K
        (try simp only [X_reg, thenX_normal])
        repeat (first | (refine xo (by simp (disch := first | assumption | omega | (with_unfolding_all exact id rfl) | exact Nat.le_of_ble_eq_true rfl | fail) only [Bool.not_true, Bool.not_false, vR_ok, uR_ok, ev_tmp, ev_const, ev_func, Env.put_some, Env.put_none, Env.set_app, Nat.reduceEqDiff, ↓reduceIte, rG_move, rG_assign, opt1_some, ext_all, dec_t, dec_f, beq_t, beq_f, bne_t, bne_f, wrap_i64, wrap_u64, Int.toNat_natCast, Nat.mul_one, Nat.zero_add, Nat.add_zero, List.map_toArray, List.map_cons, List.map_nil, rG_load, ld136, List.getElem?_toArray, List.getElem?_cons_zero, List.getElem?_cons_succ, ldN_some, rdN_cells, rG_binOp, binR_add, rG_makeSlice, binR_lss, rG_fieldAddr, fa138_0, resM_0, ld4, ld1_some, rd1_cells, ld132, ld138, rG_nilCheck, nilR_ptr, binR_mul, rG_store, st132, stN_1, stN_2, stN_3, stN_4, stN_5, stN_6, stN_7, stN_8, vcs_int, vcs_bool, vcs_ptr, vcs_slice, vcs_map, vcs_nil, vcs_iface, vcs_aggL, List.length_cons, List.length_nil, Nat.reduceAdd, st138, fa138_2, call86, rG_len, ln132, rG_indexAddr, ia132, rG_alloc_138, Value.cells, fa134_0, h18] <;> rfl) ?_; first | with_reducible refine kv ?_ | with_reducible refine ks ?_ | with_reducible refine ke ?_) | (refine xo_t ?_ ?_; focus (simp (disch := first | assumption | omega | (with_unfolding_all exact id rfl) | exact Nat.le_of_ble_eq_true rfl | fail) only [Env.put_some, Env.put_none, Env.set_app, Nat.reduceEqDiff, ↓reduceIte, Bool.not_true, Bool.not_false, h18]; done)) | (refine xo_f ?_ ?_; focus (simp (disch := first | assumption | omega | (with_unfolding_all exact id rfl) | exact Nat.le_of_ble_eq_true rfl | fail) only [Env.put_some, Env.put_none, Env.set_app, Nat.reduceEqDiff, ↓reduceIte, Bool.not_true, Bool.not_false, h18]; done)) | (refine xo_u ?_ ?_; focus (simp (disch := first | assumption | omega | (with_unfolding_all exact id rfl) | exact Nat.le_of_ble_eq_true rfl | fail) only [Env.put_some, Env.put_none, Env.set_app, Nat.reduceEqDiff, ↓reduceIte, Bool.not_true, Bool.not_false, h18]; done)))
        refine xo_nil ⟨⟨j + 1, Tn, by omega, ?_, ?_, ?_, ?_, hU2, hTl, hI, fun k v => ?_, ?_, hS2, hC2⟩, ?_⟩
        · (try simp (disch := first | assumption | omega | (with_unfolding_all exact id rfl) | exact Nat.le_of_ble_eq_true rfl | fail) only [Env.put_some, Env.put_none, Env.set_app, Nat.reduceEqDiff, ↓reduceIte, nat_int, Int.toNat_natCast, wrap_i64, h18])
          rfl
        · (try simp (disch := first | assumption | omega | (with_unfolding_all exact id rfl) | exact Nat.le_of_ble_eq_true rfl | fail) only [Env.put_some, Env.put_none, Env.set_app, Nat.reduceEqDiff, ↓reduceIte, nat_int, Int.toNat_natCast, wrap_i64, h17])
        · (try simp (disch := first | assumption | omega | (with_unfolding_all exact id rfl) | exact Nat.le_of_ble_eq_true rfl | fail) only [Env.put_some, Env.put_none, Env.set_app, Nat.reduceEqDiff, ↓reduceIte, nat_int, Int.toNat_natCast, wrap_i64, h16])
        · (try simp (disch := first | assumption | omega | (with_unfolding_all exact id rfl) | exact Nat.le_of_ble_eq_true rfl | fail) only [Env.put_some, Env.put_none, Env.set_app, Nat.reduceEqDiff, ↓reduceIte, nat_int, Int.toNat_natCast, wrap_i64, h0])
        · rw [hM]
          constructor
          · rintro ⟨q, h1, h2⟩; exact ⟨q, by omega, h2⟩
          · rintro ⟨q, h1, h2⟩
            refine ⟨q, ?_, h2⟩
            have : q ≠ j := by rintro rfl; rw [ho] at h2; cases h2
            omega
        · rw [hcn, hcn1]; simp [b2]
        · (try simp (disch := first | assumption | omega | (with_unfolding_all exact id rfl) | exact Nat.le_of_ble_eq_true rfl | fail) only [Env.put_some, Env.put_none, Env.set_app, Nat.reduceEqDiff, ↓reduceIte, nat_int, Int.toNat_natCast, wrap_i64, h18])
          omega
      · have hce' : a = .int .i64 x ∧ b = .int .i64 y ∧ c = .int .i64 z ∧ d = .bool true := by
          have : [.int .i64 x, .int .i64 y, .int .i64 z, .bool true] = [a, b, c, d] := hce
          simp only [List.cons.injEq, and_true] at this
          exact ⟨this.1.symm, this.2.1.symm, this.2.2.1.symm, this.2.2.2.symm⟩
        obtain ⟨rfl, rfl, rfl, rfl⟩ := hce'
        have hroom : ∃ z, z < Tn.length ∧ occ Tn z = none := by
          refine cnt_room ?_
          have h1 := cnt_le (T.take j)
          have h2 : (T.take j).length = j := by rw [List.length_take]; omega
          omega
        obtain ⟨zz, hz1, hz2⟩ := hroom
        obtain ⟨i, hf⟩ := Finds.ex homeN_lt (x, y) hz1 hz2
        have hil := finds_lt hf
        have hil' : (i : Int) < Tn.length := by omega
        have hnone : occ Tn i = none := by
          obtain ⟨dd, _, _, _, hor⟩ := id hf
          rcases hor with h1 | ⟨v', h1⟩
          · exact h1
          · exfalso
            obtain ⟨q, hq, hq2⟩ := (hM (x, y) v').1 ⟨i, h1⟩
            have := I.nodup _ _ _ _ _ hq2 ho
            omega
        obtain ⟨hI', hM'⟩ := hI.put homeN_lt z hf hnone
        have hp2 : ∀ u, Ext w2 u → u.heap[p]? = some (.cells #[.slice (some ⟨g', 0, none⟩) Tn.length Tn.length, .int .i64 many] 134) := fun u hu => hu.at hU2.at_
        have hb3 : ∀ u, Ext w2 u → u.heap[nb]? = some (.cells #[.int .i64 x, .int .i64 y, .int .i64 z, .bool true] 138) := fun u hu => hu.at hb2
        have hk2 : (#[.int .i64 x, .int .i64 y, .int .i64 z, .bool true] : Array Value).extract 0 (0 + 2) = #[.int .i64 x, .int .i64 y] := rfl
        have hk4 : (#[.int .i64 x, .int .i64 y, .int .i64 z, .bool true] : Array Value).extract 0 (0 + 4) = #[.int .i64 x, .int .i64 y, .int .i64 z, .bool true] := rfl
        have hs4 : 0 + 4 ≤ (#[.int .i64 x, .int .i64 y, .int .i64 z, .bool true] : Array Value).size := Nat.le_refl 4
        have hs2 : 0 + 2 ≤ (#[.int .i64 x, .int .i64 y, .int .i64 z, .bool true] : Array Value).size := show 2 ≤ 4 by omega
        have hset := tbA_some (T := Tn) (i := i) (lo := x) (hi := y) (n := z) hil
        have htn : (tbL Tn).toArray.size = Tn.length * 4 := by simp [tbL_len]; omega
        refine X_seq fun K hK => ?_
        simp only [X_reg, thenX_normal]
        repeat (first | (refine xo (by simp (disch := first | assumption | omega | (with_unfolding_all exact id rfl) | exact Nat.le_of_ble_eq_true rfl | fail) only [Bool.not_true, Bool.not_false, vR_ok, uR_ok, ev_tmp, ev_const, ev_func, Env.put_some, Env.put_none, Env.set_app, Nat.reduceEqDiff, ↓reduceIte, rG_move, rG_assign, opt1_some, ext_all, dec_t, dec_f, beq_t, beq_f, bne_t, bne_f, wrap_i64, wrap_u64, Int.toNat_natCast, Nat.mul_one, Nat.zero_add, Nat.add_zero, List.map_toArray, List.map_cons, List.map_nil, rG_load, ld136, List.getElem?_toArray, List.getElem?_cons_zero, List.getElem?_cons_succ, ldN_some, rdN_cells, rG_binOp, binR_add, rG_makeSlice, binR_lss, rG_fieldAddr, fa138_0, resM_0, ld4, ld1_some, rd1_cells, ld132, ld138, rG_nilCheck, nilR_ptr, binR_mul, rG_store, st132, stN_1, stN_2, stN_3, stN_4, stN_5, stN_6, stN_7, stN_8, vcs_int, vcs_bool, vcs_ptr, vcs_slice, vcs_map, vcs_nil, vcs_iface, vcs_aggL, List.length_cons, List.length_nil, Nat.reduceAdd, st138, fa138_2, call86, rG_len, ln132, rG_indexAddr, ia132, rG_alloc_138, Value.cells, fa134_0, hb2] <;> rfl) ?_; first | with_reducible refine kv ?_ | with_reducible refine ks ?_ | with_reducible refine ke ?_) | (refine xo_t ?_ ?_; focus (simp (disch := first | assumption | omega | (with_unfolding_all exact id rfl) | exact Nat.le_of_ble_eq_true rfl | fail) only [Env.put_some, Env.put_none, Env.set_app, Nat.reduceEqDiff, ↓reduceIte, Bool.not_true, Bool.not_false, hb2]; done)) | (refine xo_f ?_ ?_; focus (simp (disch := first | assumption | omega | (with_unfolding_all exact id rfl) | exact Nat.le_of_ble_eq_true rfl | fail) only [Env.put_some, Env.put_none, Env.set_app, Nat.reduceEqDiff, ↓reduceIte, Bool.not_true, Bool.not_false, hb2]; done)) | (refine xo_u ?_ ?_; focus (simp (disch := first | assumption | omega | (with_unfolding_all exact id rfl) | exact Nat.le_of_ble_eq_true rfl | fail) only [Env.put_some, Env.put_none, Env.set_app, Nat.reduceEqDiff, ↓reduceIte, Bool.not_true, Bool.not_false, hb2]; done)))
        refine xo_nil ?_
        refine hK _ _ ?_
        clear hK K
        refine X_if_t (by simp (disch := first | assumption | omega) only [ev_tmp, Env.put_some, Env.put_none, Env.set_app, Nat.reduceEqDiff, ↓reduceIte, beq_t, dec_t, beq_self_eq_true]) ?_
        simp only [X_draw, thenX_normal]
        refine XD_ext ?_
        repeat (first | (refine xe0 (fun w => (by simp (disch := first | assumption | omega | (with_unfolding_all exact id rfl) | exact Nat.le_of_ble_eq_true rfl | fail) only [Bool.not_true, Bool.not_false, vR_ok, uR_ok, ev_tmp, ev_const, ev_func, Env.put_some, Env.put_none, Env.set_app, Nat.reduceEqDiff, ↓reduceIte, rG_move, rG_assign, opt1_some, ext_all, dec_t, dec_f, beq_t, beq_f, bne_t, bne_f, wrap_i64, wrap_u64, Int.toNat_natCast, Nat.mul_one, Nat.zero_add, Nat.add_zero, List.map_toArray, List.map_cons, List.map_nil, rG_load, ld136, List.getElem?_toArray, List.getElem?_cons_zero, List.getElem?_cons_succ, ldN_some, rdN_cells, rG_binOp, binR_add, rG_makeSlice, binR_lss, rG_fieldAddr, fa138_0, resM_0, ld4, ld1_some, rd1_cells, ld132, ld138, rG_nilCheck, nilR_ptr, binR_mul, rG_store, st132, stN_1, stN_2, stN_3, stN_4, stN_5, stN_6, stN_7, stN_8, vcs_int, vcs_bool, vcs_ptr, vcs_slice, vcs_map, vcs_nil, vcs_iface, vcs_aggL, List.length_cons, List.length_nil, Nat.reduceAdd, st138, fa138_2, call86, rG_len, ln132, rG_indexAddr, ia132, rG_alloc_138, Value.cells, fa134_0, h0, hp2, hb3, hk2] <;> rfl)) ?_) | (refine xe1e (fun w' hw => (by simp (disch := first | assumption | omega | (with_unfolding_all exact id rfl) | exact Nat.le_of_ble_eq_true rfl | fail) only [Bool.not_true, Bool.not_false, vR_ok, uR_ok, ev_tmp, ev_const, ev_func, Env.put_some, Env.put_none, Env.set_app, Nat.reduceEqDiff, ↓reduceIte, rG_move, rG_assign, opt1_some, ext_all, dec_t, dec_f, beq_t, beq_f, bne_t, bne_f, wrap_i64, wrap_u64, Int.toNat_natCast, Nat.mul_one, Nat.zero_add, Nat.add_zero, List.map_toArray, List.map_cons, List.map_nil, rG_load, ld136, List.getElem?_toArray, List.getElem?_cons_zero, List.getElem?_cons_succ, ldN_some, rdN_cells, rG_binOp, binR_add, rG_makeSlice, binR_lss, rG_fieldAddr, fa138_0, resM_0, ld4, ld1_some, rd1_cells, ld132, ld138, rG_nilCheck, nilR_ptr, binR_mul, rG_store, st132, stN_1, stN_2, stN_3, stN_4, stN_5, stN_6, stN_7, stN_8, vcs_int, vcs_bool, vcs_ptr, vcs_slice, vcs_map, vcs_nil, vcs_iface, vcs_aggL, List.length_cons, List.length_nil, Nat.reduceAdd, st138, fa138_2, call86, rG_len, ln132, rG_indexAddr, ia132, rG_alloc_138, Value.cells, fa134_0, h0, hp2, hb3, hk2] <;> rfl)) ?_) | (refine xe2x (by simp (disch := first | assumption | omega | (with_unfolding_all exact id rfl) | exact Nat.le_of_ble_eq_true rfl | fail) only [Bool.not_true, Bool.not_false, vR_ok, uR_ok, ev_tmp, ev_const, ev_func, Env.put_some, Env.put_none, Env.set_app, Nat.reduceEqDiff, ↓reduceIte, rG_move, rG_assign, opt1_some, ext_all, dec_t, dec_f, beq_t, beq_f, bne_t, bne_f, wrap_i64, wrap_u64, Int.toNat_natCast, Nat.mul_one, Nat.zero_add, Nat.add_zero, List.map_toArray, List.map_cons, List.map_nil, rG_load, ld136, List.getElem?_toArray, List.getElem?_cons_zero, List.getElem?_cons_succ, ldN_some, rdN_cells, rG_binOp, binR_add, rG_makeSlice, binR_lss, rG_fieldAddr, fa138_0, resM_0, ld4, ld1_some, rd1_cells, ld132, ld138, rG_nilCheck, nilR_ptr, binR_mul, rG_store, st132, stN_1, stN_2, stN_3, stN_4, stN_5, stN_6, stN_7, stN_8, vcs_int, vcs_bool, vcs_ptr, vcs_slice, vcs_map, vcs_nil, vcs_iface, vcs_aggL, List.length_cons, List.length_nil, Nat.reduceAdd, st138, fa138_2, call86, rG_len, ln132, rG_indexAddr, ia132, rG_alloc_138, Value.cells, fa134_0, h0, hp2, hb3, hk2] <;> rfl) ?_; (first | with_reducible refine kv ?_ | with_reducible refine ks ?_ | with_reducible refine ke ?_)) | (refine xe0_t ?_ ?_; focus (simp (disch := first | assumption | omega | (with_unfolding_all exact id rfl) | exact Nat.le_of_ble_eq_true rfl | fail) only [Env.put_some, Env.put_none, Env.set_app, Nat.reduceEqDiff, ↓reduceIte, Bool.not_true, Bool.not_false, h0, hp2, hb3, hk2]; done)) | (refine xe1_t ?_ ?_; focus (simp (disch := first | assumption | omega | (with_unfolding_all exact id rfl) | exact Nat.le_of_ble_eq_true rfl | fail) only [Env.put_some, Env.put_none, Env.set_app, Nat.reduceEqDiff, ↓reduceIte, Bool.not_true, Bool.not_false, h0, hp2, hb3, hk2]; done)) | (refine xe0_f ?_ ?_; focus (simp (disch := first | assumption | omega | (with_unfolding_all exact id rfl) | exact Nat.le_of_ble_eq_true rfl | fail) only [Env.put_some, Env.put_none, Env.set_app, Nat.reduceEqDiff, ↓reduceIte, Bool.not_true, Bool.not_false, h0, hp2, hb3, hk2]; done)) | (refine xe1_f ?_ ?_; focus (simp (disch := first | assumption | omega | (with_unfolding_all exact id rfl) | exact Nat.le_of_ble_eq_true rfl | fail) only [Env.put_some, Env.put_none, Env.set_app, Nat.reduceEqDiff, ↓reduceIte, Bool.not_true, Bool.not_false, h0, hp2, hb3, hk2]; done)) | (refine xe0_u ?_ ?_; focus (simp (disch := first | assumption | omega | (with_unfolding_all exact id rfl) | exact Nat.le_of_ble_eq_true rfl | fail) only [Env.put_some, Env.put_none, Env.set_app, Nat.reduceEqDiff, ↓reduceIte, Bool.not_true, Bool.not_false, h0, hp2, hb3, hk2]; done)) | (refine xe1_u ?_ ?_; focus (simp (disch := first | assumption | omega | (with_unfolding_all exact id rfl) | exact Nat.le_of_ble_eq_true rfl | fail) only [Env.put_some, Env.put_none, Env.set_app, Nat.reduceEqDiff, ↓reduceIte, Bool.not_true, Bool.not_false, h0, hp2, hb3, hk2]; done)))
        refine xe1c (fun w' hw => (by simp (disch := first | assumption | omega | (with_unfolding_all exact id rfl) | exact Nat.le_of_ble_eq_true rfl | fail) only [Bool.not_true, Bool.not_false, vR_ok, uR_ok, ev_tmp, ev_const, ev_func, Env.put_some, Env.put_none, Env.set_app, Nat.reduceEqDiff, ↓reduceIte, rG_move, rG_assign, opt1_some, ext_all, dec_t, dec_f, beq_t, beq_f, bne_t, bne_f, wrap_i64, wrap_u64, Int.toNat_natCast, Nat.mul_one, Nat.zero_add, Nat.add_zero, List.map_toArray, List.map_cons, List.map_nil, rG_load, ld136, List.getElem?_toArray, List.getElem?_cons_zero, List.getElem?_cons_succ, ldN_some, rdN_cells, rG_binOp, binR_add, rG_makeSlice, binR_lss, rG_fieldAddr, fa138_0, resM_0, ld4, ld1_some, rd1_cells, ld132, ld138, rG_nilCheck, nilR_ptr, binR_mul, rG_store, st132, stN_1, stN_2, stN_3, stN_4, stN_5, stN_6, stN_7, stN_8, vcs_int, vcs_bool, vcs_ptr, vcs_slice, vcs_map, vcs_nil, vcs_iface, vcs_aggL, List.length_cons, List.length_nil, Nat.reduceAdd, st138, fa138_2, call86, rG_len, ln132, rG_indexAddr, ia132, rG_alloc_138, Value.cells, fa134_0, h0] <;> rfl)) (fun w' hw => ufind_calls (hU2.ext hw) hf) ?_
        repeat (first | (refine xe0 (fun w => (by simp (disch := first | assumption | omega | (with_unfolding_all exact id rfl) | exact Nat.le_of_ble_eq_true rfl | fail) only [Bool.not_true, Bool.not_false, vR_ok, uR_ok, ev_tmp, ev_const, ev_func, Env.put_some, Env.put_none, Env.set_app, Nat.reduceEqDiff, ↓reduceIte, rG_move, rG_assign, opt1_some, ext_all, dec_t, dec_f, beq_t, beq_f, bne_t, bne_f, wrap_i64, wrap_u64, Int.toNat_natCast, Nat.mul_one, Nat.zero_add, Nat.add_zero, List.map_toArray, List.map_cons, List.map_nil, rG_load, ld136, List.getElem?_toArray, List.getElem?_cons_zero, List.getElem?_cons_succ, ldN_some, rdN_cells, rG_binOp, binR_add, rG_makeSlice, binR_lss, rG_fieldAddr, fa138_0, resM_0, ld4, ld1_some, rd1_cells, ld132, ld138, rG_nilCheck, nilR_ptr, binR_mul, rG_store, st132, stN_1, stN_2, stN_3, stN_4, stN_5, stN_6, stN_7, stN_8, vcs_int, vcs_bool, vcs_ptr, vcs_slice, vcs_map, vcs_nil, vcs_iface, vcs_aggL, List.length_cons, List.length_nil, Nat.reduceAdd, st138, fa138_2, call86, rG_len, ln132, rG_indexAddr, ia132, rG_alloc_138, Value.cells, fa134_0, h0, hb3, hk4] <;> rfl)) ?_) | (refine xe1e (fun w' hw => (by simp (disch := first | assumption | omega | (with_unfolding_all exact id rfl) | exact Nat.le_of_ble_eq_true rfl | fail) only [Bool.not_true, Bool.not_false, vR_ok, uR_ok, ev_tmp, ev_const, ev_func, Env.put_some, Env.put_none, Env.set_app, Nat.reduceEqDiff, ↓reduceIte, rG_move, rG_assign, opt1_some, ext_all, dec_t, dec_f, beq_t, beq_f, bne_t, bne_f, wrap_i64, wrap_u64, Int.toNat_natCast, Nat.mul_one, Nat.zero_add, Nat.add_zero, List.map_toArray, List.map_cons, List.map_nil, rG_load, ld136, List.getElem?_toArray, List.getElem?_cons_zero, List.getElem?_cons_succ, ldN_some, rdN_cells, rG_binOp, binR_add, rG_makeSlice, binR_lss, rG_fieldAddr, fa138_0, resM_0, ld4, ld1_some, rd1_cells, ld132, ld138, rG_nilCheck, nilR_ptr, binR_mul, rG_store, st132, stN_1, stN_2, stN_3, stN_4, stN_5, stN_6, stN_7, stN_8, vcs_int, vcs_bool, vcs_ptr, vcs_slice, vcs_map, vcs_nil, vcs_iface, vcs_aggL, List.length_cons, List.length_nil, Nat.reduceAdd, st138, fa138_2, call86, rG_len, ln132, rG_indexAddr, ia132, rG_alloc_138, Value.cells, fa134_0, h0, hb3, hk4] <;> rfl)) ?_) | (refine xe2x (by simp (disch := first | assumption | omega | (with_unfolding_all exact id rfl) | exact Nat.le_of_ble_eq_true rfl | fail) only [Bool.not_true, Bool.not_false, vR_ok, uR_ok, ev_tmp, ev_const, ev_func, Env.put_some, Env.put_none, Env.set_app, Nat.reduceEqDiff, ↓reduceIte, rG_move, rG_assign, opt1_some, ext_all, dec_t, dec_f, beq_t, beq_f, bne_t, bne_f, wrap_i64, wrap_u64, Int.toNat_natCast, Nat.mul_one, Nat.zero_add, Nat.add_zero, List.map_toArray, List.map_cons, List.map_nil, rG_load, ld136, List.getElem?_toArray, List.getElem?_cons_zero, List.getElem?_cons_succ, ldN_some, rdN_cells, rG_binOp, binR_add, rG_makeSlice, binR_lss, rG_fieldAddr, fa138_0, resM_0, ld4, ld1_some, rd1_cells, ld132, ld138, rG_nilCheck, nilR_ptr, binR_mul, rG_store, st132, stN_1, stN_2, stN_3, stN_4, stN_5, stN_6, stN_7, stN_8, vcs_int, vcs_bool, vcs_ptr, vcs_slice, vcs_map, vcs_nil, vcs_iface, vcs_aggL, List.length_cons, List.length_nil, Nat.reduceAdd, st138, fa138_2, call86, rG_len, ln132, rG_indexAddr, ia132, rG_alloc_138, Value.cells, fa134_0, h0, hb3, hk4] <;> rfl) ?_; (first | with_reducible refine kv ?_ | with_reducible refine ks ?_ | with_reducible refine ke ?_)) | (refine xe0_t ?_ ?_; focus (simp (disch := first | assumption | omega | (with_unfolding_all exact id rfl) | exact Nat.le_of_ble_eq_true rfl | fail) only [Env.put_some, Env.put_none, Env.set_app, Nat.reduceEqDiff, ↓reduceIte, Bool.not_true, Bool.not_false, h0, hb3, hk4]; done)) | (refine xe1_t ?_ ?_; focus (simp (disch := first | assumption | omega | (with_unfolding_all exact id rfl) | exact Nat.le_of_ble_eq_true rfl | fail) only [Env.put_some, Env.put_none, Env.set_app, Nat.reduceEqDiff, ↓reduceIte, Bool.not_true, Bool.not_false, h0, hb3, hk4]; done)) | (refine xe0_f ?_ ?_; focus (simp (disch := first | assumption | omega | (with_unfolding_all exact id rfl) | exact Nat.le_of_ble_eq_true rfl | fail) only [Env.put_some, Env.put_none, Env.set_app, Nat.reduceEqDiff, ↓reduceIte, Bool.not_true, Bool.not_false, h0, hb3, hk4]; done)) | (refine xe1_f ?_ ?_; focus (simp (disch := first | assumption | omega | (with_unfolding_all exact id rfl) | exact Nat.le_of_ble_eq_true rfl | fail) only [Env.put_some, Env.put_none, Env.set_app, Nat.reduceEqDiff, ↓reduceIte, Bool.not_true, Bool.not_false, h0, hb3, hk4]; done)) | (refine xe0_u ?_ ?_; focus (simp (disch := first | assumption | omega | (with_unfolding_all exact id rfl) | exact Nat.le_of_ble_eq_true rfl | fail) only [Env.put_some, Env.put_none, Env.set_app, Nat.reduceEqDiff, ↓reduceIte, Bool.not_true, Bool.not_false, h0, hb3, hk4]; done)) | (refine xe1_u ?_ ?_; focus (simp (disch := first | assumption | omega | (with_unfolding_all exact id rfl) | exact Nat.le_of_ble_eq_true rfl | fail) only [Env.put_some, Env.put_none, Env.set_app, Nat.reduceEqDiff, ↓reduceIte, Bool.not_true, Bool.not_false, h0, hb3, hk4]; done)))
        refine xe2 fun w3 hE3 => ?_
        have hU3 := hU2.ext hE3
        have hsl3 := hU3.sl
        have hszt : i * 4 + 4 ≤ (tbL Tn).toArray.size := by omega
        refine kr (by simp (disch := first | assumption | omega | (with_unfolding_all exact id rfl) | exact Nat.le_of_ble_eq_true rfl | fail) only [Bool.not_true, Bool.not_false, vR_ok, uR_ok, ev_tmp, ev_const, ev_func, Env.put_some, Env.put_none, Env.set_app, Nat.reduceEqDiff, ↓reduceIte, rG_move, rG_assign, opt1_some, ext_all, dec_t, dec_f, beq_t, beq_f, bne_t, bne_f, wrap_i64, wrap_u64, Int.toNat_natCast, Nat.mul_one, Nat.zero_add, Nat.add_zero, List.map_toArray, List.map_cons, List.map_nil, rG_load, ld136, List.getElem?_toArray, List.getElem?_cons_zero, List.getElem?_cons_succ, ldN_some, rdN_cells, rG_binOp, binR_add, rG_makeSlice, binR_lss, rG_fieldAddr, fa138_0, resM_0, ld4, ld1_some, rd1_cells, ld132, ld138, rG_nilCheck, nilR_ptr, binR_mul, rG_store, st132, stN_1, stN_2, stN_3, stN_4, stN_5, stN_6, stN_7, stN_8, vcs_int, vcs_bool, vcs_ptr, vcs_slice, vcs_map, vcs_nil, vcs_iface, vcs_aggL, List.length_cons, List.length_nil, Nat.reduceAdd, st138, fa138_2, call86, rG_len, ln132, rG_indexAddr, ia132, rG_alloc_138, Value.cells, fa134_0, hsl3, hset] <;> rfl) ?_
        first | with_reducible refine kv ?_ | with_reducible refine ks ?_ | with_reducible refine ke ?_
        refine xe_nil ?_
        rintro _ rfl
        simp only [X_skip, X_exit, X_ret, X_block, thenX_normal, thenX_ret, thenX_exit, inX_normal, inX_ret, inX_exit, ↓reduceIte, Nat.reduceEqDiff]
        (try refine xo_nil ?_)
        refine hK _ _ ?_
        clear hK K
        have hU4 := hU3.row hil (some ((x, y), z))
        (try simp only [X_reg, thenX_normal])
        repeat (first | (refine xo (by simp (disch := first | assumption | omega | (with_unfolding_all exact id rfl) | exact Nat.le_of_ble_eq_true rfl | fail) only [Bool.not_true, Bool.not_false, vR_ok, uR_ok, ev_tmp, ev_const, ev_func, Env.put_some, Env.put_none, Env.set_app, Nat.reduceEqDiff, ↓reduceIte, rG_move, rG_assign, opt1_some, ext_all, dec_t, dec_f, beq_t, beq_f, bne_t, bne_f, wrap_i64, wrap_u64, Int.toNat_natCast, Nat.mul_one, Nat.zero_add, Nat.add_zero, List.map_toArray, List.map_cons, List.map_nil, rG_load, ld136, List.getElem?_toArray, List.getElem?_cons_zero, List.getElem?_cons_succ, ldN_some, rdN_cells, rG_binOp, binR_add, rG_makeSlice, binR_lss, rG_fieldAddr, fa138_0, resM_0, ld4, ld1_some, rd1_cells, ld132, ld138, rG_nilCheck, nilR_ptr, binR_mul, rG_store, st132, stN_1, stN_2, stN_3, stN_4, stN_5, stN_6, stN_7, stN_8, vcs_int, vcs_bool, vcs_ptr, vcs_slice, vcs_map, vcs_nil, vcs_iface, vcs_aggL, List.length_cons, List.length_nil, Nat.reduceAdd, st138, fa138_2, call86, rG_len, ln132, rG_indexAddr, ia132, rG_alloc_138, Value.cells, fa134_0, h18] <;> rfl) ?_; first | with_reducible refine kv ?_ | with_reducible refine ks ?_ | with_reducible refine ke ?_) | (refine xo_t ?_ ?_; focus (simp (disch := first | assumption | omega | (with_unfolding_all exact id rfl) | exact Nat.le_of_ble_eq_true rfl | fail) only [Env.put_some, Env.put_none, Env.set_app, Nat.reduceEqDiff, ↓reduceIte, Bool.not_true, Bool.not_false, h18]; done)) | (refine xo_f ?_ ?_; focus (simp (disch := first | assumption | omega | (with_unfolding_all exact id rfl) | exact Nat.le_of_ble_eq_true rfl | fail) only [Env.put_some, Env.put_none, Env.set_app, Nat.reduceEqDiff, ↓reduceIte, Bool.not_true, Bool.not_false, h18]; done)) | (refine xo_u ?_ ?_; focus (simp (disch := first | assumption | omega | (with_unfolding_all exact id rfl) | exact Nat.le_of_ble_eq_true rfl | fail) only [Env.put_some, Env.put_none, Env.set_app, Nat.reduceEqDiff, ↓reduceIte, Bool.not_true, Bool.not_false, h18]; done)))
        have hC3 := hC2.trans (hE3.chg (fun _ => False)) (fun _ _ h => h.elim)
        refine xo_nil ⟨⟨j + 1, _, by omega, ?_, ?_, ?_, ?_, hU4, by rw [List.length_set]; exact hTl, hI', fun k v => ?_, ?_, ?_, hC3.upd (fun hlt => by omega) _⟩, ?_⟩
        · (try simp (disch := first | assumption | omega | (with_unfolding_all exact id rfl) | exact Nat.le_of_ble_eq_true rfl | fail) only [Env.put_some, Env.put_none, Env.set_app, Nat.reduceEqDiff, ↓reduceIte, nat_int, Int.toNat_natCast, wrap_i64, h18])
          rfl
        · (try simp (disch := first | assumption | omega | (with_unfolding_all exact id rfl) | exact Nat.le_of_ble_eq_true rfl | fail) only [Env.put_some, Env.put_none, Env.set_app, Nat.reduceEqDiff, ↓reduceIte, nat_int, Int.toNat_natCast, wrap_i64, h17])
        · (try simp (disch := first | assumption | omega | (with_unfolding_all exact id rfl) | exact Nat.le_of_ble_eq_true rfl | fail) only [Env.put_some, Env.put_none, Env.set_app, Nat.reduceEqDiff, ↓reduceIte, nat_int, Int.toNat_natCast, wrap_i64, h16])
        · (try simp (disch := first | assumption | omega | (with_unfolding_all exact id rfl) | exact Nat.le_of_ble_eq_true rfl | fail) only [Env.put_some, Env.put_none, Env.set_app, Nat.reduceEqDiff, ↓reduceIte, nat_int, Int.toNat_natCast, wrap_i64, h0])
        · rw [hM', hM]
          constructor
          · rintro (⟨q, h1, h2⟩ | ⟨rfl, rfl⟩)
            · exact ⟨q, by omega, h2⟩
            · exact ⟨j, by omega, ho⟩
          · rintro ⟨q, h1, h2⟩
            by_cases hqj : q = j
            · subst hqj; rw [ho] at h2; cases h2; exact .inr ⟨rfl, rfl⟩
            · exact .inl ⟨q, by omega, h2⟩
        · rw [cnt_set hil, hnone, hcn, hcn1]; simp [b2]
        · rw [upd_other (by omega)]; exact hE3.at hS2
        · (try simp (disch := first | assumption | omega | (with_unfolding_all exact id rfl) | exact Nat.le_of_ble_eq_true rfl | fail) only [Env.put_some, Env.put_none, Env.set_app, Nat.reduceEqDiff, ↓reduceIte, nat_int, Int.toNat_natCast, wrap_i64, h18])
          omega
    · obtain rfl : j = T.length := by omega
      refine X_seq fun K hK => ?_
      simp only [X_reg, thenX_normal]
      repeat (first | (refine xo (by simp (disch := first | assumption | omega | (with_unfolding_all exact id rfl) | exact Nat.le_of_ble_eq_true rfl | fail) only [Bool.not_true, Bool.not_false, vR_ok, uR_ok, ev_tmp, ev_const, ev_func, Env.put_some, Env.put_none, Env.set_app, Nat.reduceEqDiff, ↓reduceIte, rG_move, rG_assign, opt1_some, ext_all, dec_t, dec_f, beq_t, beq_f, bne_t, bne_f, wrap_i64, wrap_u64, Int.toNat_natCast, Nat.mul_one, Nat.zero_add, Nat.add_zero, List.map_toArray, List.map_cons, List.map_nil, rG_load, ld136, List.getElem?_toArray, List.getElem?_cons_zero, List.getElem?_cons_succ, ldN_some, rdN_cells, rG_binOp, binR_add, rG_makeSlice, binR_lss, rG_fieldAddr, fa138_0, resM_0, ld4, ld1_some, rd1_cells, ld132, ld138, rG_nilCheck, nilR_ptr, binR_mul, rG_store, st132, stN_1, stN_2, stN_3, stN_4, stN_5, stN_6, stN_7, stN_8, vcs_int, vcs_bool, vcs_ptr, vcs_slice, vcs_map, vcs_nil, vcs_iface, vcs_aggL, List.length_cons, List.length_nil, Nat.reduceAdd, st138, fa138_2, call86, rG_len, ln132, rG_indexAddr, ia132, rG_alloc_138, Value.cells, fa134_0, h18, h17] <;> rfl) ?_; first | with_reducible refine kv ?_ | with_reducible refine ks ?_ | with_reducible refine ke ?_) | (refine xo_t ?_ ?_; focus (simp (disch := first | assumption | omega | (with_unfolding_all exact id rfl) | exact Nat.le_of_ble_eq_true rfl | fail) only [Env.put_some, Env.put_none, Env.set_app, Nat.reduceEqDiff, ↓reduceIte, Bool.not_true, Bool.not_false, h18, h17]; done)) | (refine xo_f ?_ ?_; focus (simp (disch := first | assumption | omega | (with_unfolding_all exact id rfl) | exact Nat.le_of_ble_eq_true rfl | fail) only [Env.put_some, Env.put_none, Env.set_app, Nat.reduceEqDiff, ↓reduceIte, Bool.not_true, Bool.not_false, h18, h17]; done)) | (refine xo_u ?_ ?_; focus (simp (disch := first | assumption | omega | (with_unfolding_all exact id rfl) | exact Nat.le_of_ble_eq_true rfl | fail) only [Env.put_some, Env.put_none, Env.set_app, Nat.reduceEqDiff, ↓reduceIte, Bool.not_true, Bool.not_false, h18, h17]; done)))
      refine xo_nil ?_
      refine hK _ _ ?_
      clear hK K
      refine X_seq fun K hK => ?_
      refine X_if_f (by simp (disch := first | assumption | omega) only [ev_tmp, Env.put_some, Env.put_none, Env.set_app, Nat.reduceEqDiff, ↓reduceIte, beq_f, dec_f]) ?_
      simp only [X_skip, X_exit, X_ret, X_block, thenX_normal, thenX_ret, thenX_exit, inX_normal, inX_ret, inX_exit, ↓reduceIte, Nat.reduceEqDiff]
      simp (disch := first | assumption | omega | (with_unfolding_all exact id rfl) | exact Nat.le_of_ble_eq_true rfl | fail) only [X_ret, thenX_ret, inX_ret, retX_ret, retX_normal, Try.results87, resM_0, resM_1, resM_2, resM_3, resM_4, Env.put_some, Env.put_none, Env.set_app, Nat.reduceEqDiff, ↓reduceIte]
      refine ⟨_, rfl, g', Tn, hU, hTl, hI, fun k v => ?_, by rw [hcn, List.take_length], hC, by omega⟩
      rw [hM]
      constructor
      · rintro ⟨q, _, h2⟩; exact ⟨q, h2⟩
      · rintro ⟨q, h2⟩; exact ⟨q, occ_lt h2, h2⟩
end Go.Proofs.Ytjdomnpfgdbckaa
