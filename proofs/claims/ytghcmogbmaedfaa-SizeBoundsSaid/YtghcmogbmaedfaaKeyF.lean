/- Maps whose keys are functions of eight variables. -/
import Derived.Test.YtghcmogbmaedfaaCof
import Derived.Test.YtghcmogbmaedfaaBxMap2
namespace Go.Proofs.Ytghcmogbmaedfaa
open Go Go.Bx
set_option linter.unusedSimpArgs false
set_option linter.unusedVariables false
set_option maxRecDepth 100000
set_option maxHeartbeats 4000000
attribute [local irreducible] X XO XE XF XD XW thenX inX retX kN CallsR
theorem find_of_eq {κ : Type} [DecidableEq κ] {P : Program} {kt : TypeId} {kf : κ → Value} {ok : κ → Prop} (hwide : (match P.underlying kt with | some (.array _ _) | some (.struct _) => true | _ => false) = true)
    (heq : ∀ a b w, ok a → ok b → (Op.equal kt (kf a) (kf b)).run P w = .ok (decide (a = b)) w) (k : κ) (es : List (Ent κ)) (w : World) (hk : ok k) (hes : ∀ e ∈ es, ok e.1) :
    (Instr.findKey kt (kf k) (es.map (mEnt kf))).run P w = .ok (mfind es k) w := by
  rw [run_findKey_eq w hwide]
  have gen : ∀ (es : List (Ent κ)) (i : Nat), (∀ e ∈ es, ok e.1) → (Instr.findAsking kt (kf k) (es.map (mEnt kf)) i).run P w = .ok (mfindFrom k es i) w := by
    intro es
    induction es with
    | nil => intro i _; rfl
    | cons e es ih =>
      intro i he
      have h1 := heq k e.1 w hk (he e (by simp))
      simp only [List.map_cons, Instr.findAsking, mEnt, Sem.run_bind, h1, Result.andThen_ok, mfindFrom]
      by_cases hke : e.1 = k
      · subst hke; simp [pure, Sem.run]
      · have : decide (k = e.1) = false := decide_eq_false fun h => hke h.symm
        rw [this, if_neg hke]
        simp only [Bool.false_eq_true, if_false]
        exact ih (i + 1) fun x hx => he x (by simp [hx])
  exact gen es 0 hes
theorem fun_equal {f g : Fun8} {w : World} : (Op.equal 24 (fv f) (fv g)).run Try.prog w = .ok (decide (f = g)) w := by
  rw [agg_list, agg_list, equal_ints T24 T22 rfl rfl, decide_eq_decide.2 (words_eq f g)]
theorem fun_keys : KeyOK Try.prog 24 fv fun _ => True where
  check := fun e k w _ => by kernel_rfl
  find := find_of_eq (by kernel_rfl) fun a b w _ _ => fun_equal
  stay := fun k w _ => by
    have : Instr.sameBits 10000 (fv k) (fv k) = true := by
      show Instr.sameBits (9999 + 1) (fv k) (fv k) = true
      simp [fv, w4, Instr.sameBits, vU]
    simp [Instr.keyThatStays, this, pure, Sem.run]
section
variable {w : World} {b clock : Nat} {es : List (Ent Fun8)} {f : Fun8} {n : Int} {u v : Value}
theorem luF1 (h : w.heap[b]? = some (mObj fv es clock)) : luO Try.prog 79 b (fv f) false w (some (mObj fv es clock)) h = .ok ((mget es f).getD (.int .i64 0)) w := lookup_at h T79 T3 fun_keys trivial (fun _ _ => trivial) false
theorem luF2 (h : w.heap[b]? = some (mObj fv es clock)) : luO Try.prog 79 b (fv f) true w (some (mObj fv es clock)) h = .ok (.tuple #[(mget es f).getD (.int .i64 0), .bool (mget es f).isSome]) w := lookup_at h T79 T3 fun_keys trivial (fun _ _ => trivial) true
theorem muF (h : w.heap[b]? = some (mObj fv es clock)) : muO Try.prog 79 b (fv f) v w (some (mObj fv es clock)) h = .ok () (upd w b (mObj fv (mput es f v clock) (mclock es f clock))) := update_at h T79 fun_keys trivial (fun _ _ => trivial) v
theorem meF (h : w.heap[b]? = some (mObj fv es clock)) : meO Try.prog 79 b (fv f) w (some (mObj fv es clock)) h = .ok (.tuple #[(mget es f).getD (.int .i64 0), .int .i64 (stampOf es f clock)]) (upd w b (mObj fv (mput es f ((mget es f).getD (.int .i64 0)) clock) (mclock es f clock))) := entry_at h T79 T3 fun_keys trivial fun _ _ => trivial
theorem esF (hI : MInv es clock) (h : w.heap[b]? = some (mObj fv (mput es f u clock) (mclock es f clock))) : esO Try.prog 79 b (.int .i64 (stampOf es f clock)) v w (some (mObj fv (mput es f u clock) (mclock es f clock))) h = .ok () (upd w b (mObj fv (mput es f v clock) (mclock es f clock))) := store_at hI h
theorem lnF (h : w.heap[b]? = some (mObj fv es clock)) : lnO Try.prog 79 b w (some (mObj fv es clock)) h = .ok (.int .i64 (es.length : Nat)) w := len_at h T79
attribute [push_cast] luF1 luF2 muF meF esF lnF
end
end Go.Proofs.Ytghcmogbmaedfaa
