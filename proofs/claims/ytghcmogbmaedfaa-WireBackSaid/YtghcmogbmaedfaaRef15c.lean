/- Walks of the reference of layer 18: may a request be. -/
import Derived.Test.YtghcmogbmaedfaaRef15b
namespace Go.Proofs.Ytghcmogbmaedfaa
open Go Go.Bx
set_option linter.unusedSimpArgs false
set_option linter.unusedVariables false
set_option maxRecDepth 100000
set_option maxHeartbeats 4000000
attribute [local irreducible] X XO XE XF XD XW thenX inX retX kN CallsR
theorem form_all : ∀ k : Nat, k < 22 → 1 ≤ k → (formL (k : Int) = (pl (k : Int)).map chr ∧ formL (k : Int) ≠ [63] ∧ decide (65 ∈ formL (k : Int)) = decide (0 ∈ pl (k : Int)) ∧ decide (66 ∈ formL (k : Int)) = decide (1 ∈ pl (k : Int)) ∧ decide (67 ∈ formL (k : Int)) = decide (2 ∈ pl (k : Int)) ∧ decide (98 ∈ formL (k : Int)) = decide (5 ∈ pl (k : Int))) := by decide
theorem chr_lt (p : Nat) : chr p < 256 := by unfold chr; repeat' split
                                             all_goals omega
theorem form_lt {op : Int} : (∀ x ∈ formL op, x < 256) ∧ (formL op).length ≤ 3 := by
  by_cases h : 1 ≤ op ∧ op ≤ 21
  · obtain ⟨k, hk, hk2, hs⟩ := pl_in h
    have := (form_all k hk2 (by omega)).1
    rw [hk, this]
    refine ⟨fun x hx => ?_, ?_⟩
    · obtain ⟨p, _, rfl⟩ := List.mem_map.1 hx
      exact chr_lt p
    · rw [List.length_map]; exact (parts_nodup_all k hk2).2.1
  · rw [formL, (pl_out h).2]; simp
theorem refMay_calls (r : RQ) (w : World) : CallsR Try.prog 55 #[rqV r] w fun v w' => v = .bool (mayF r) ∧ Ext w w' := by
  have cf := form_calls r.op
  have ch := fun c => has_calls (formL r.op) form_lt.1 (by have := @form_lt r.op; omega) c
  have cA := ch 65
  have cB := ch 66
  have cC := ch 67
  have cb := ch 98
  clear ch
  have hq0 : ∀ x y w, binR Try.prog .eql 9 x y (.string (ba (formL r.op))) (.string ⟨#[63]⟩) w = .ok (.bool (decide (formL r.op = [63]))) w := fun x y w => by
    have := ba_eq (bs := formL r.op) (cs := [63]) form_lt.1 (by simp)
    rw [← this]; exact binR_eqlS
  by_cases hin : 1 ≤ r.op ∧ r.op ≤ 21
  case neg =>
    have hm := may_no (r := r) (fun h => hin h.1)
    have hq : ∀ x y w, binR Try.prog .eql 9 x y (.string (ba (formL r.op))) (.string ⟨#[63]⟩) w = .ok (.bool true) w := fun x y w => by
      rw [hq0 x y w]
      have : formL r.op = [63] := by rw [formL, (pl_out hin).2]
      simp [this]
    clear hq0
    generalize ba (formL r.op) = F at *
    refine en1 Try.func55 Try.results55 mixed [] ?_
    intro e0 h0
    refine w_ fun d => ?_
    refine callQ (cf _) fun w1 hE1 hs1 => ?_
    refine w_ fun d => ?_
    exact ⟨by rw [hm], ext_⟩
  obtain ⟨kk, hkk, hkk2, hsome⟩ := pl_in hin
  have hfa := form_all kk hkk2 (by omega)
  rw [← hkk] at hfa
  obtain ⟨_, hne, f0, f1, f2, f5⟩ := hfa
  have hq : ∀ x y w, binR Try.prog .eql 9 x y (.string (ba (formL r.op))) (.string ⟨#[63]⟩) w = .ok (.bool false) w := fun x y w => by
    rw [hq0 x y w]
    simp [hne]
  rw [f0] at cA
  rw [f1] at cB
  rw [f2] at cC
  rw [f5] at cb
  clear hq0 hne f0 f1 f2 f5
  have cm : Sure Try.prog 76 #[.int .i64 r.op] _ := refMost_calls r.op hin
  generalize hmo : mostV r.op = mo at cm
  clear hkk
  by_cases hg : 1 ≤ r.tn ∧ r.tn ≤ 8 ∧ 0 ≤ r.n ∧ r.n ≤ mo ∧ 0 ≤ r.bit ∧ r.bit ≤ 1
  case neg =>
    have hm := may_no (r := r) (fun h => hg (by rw [← hmo]; exact h.2))
    clear hmo hsome
    generalize ba (formL r.op) = F at *
    refine en1 Try.func55 Try.results55 mixed [] ?_
    intro e0 h0
    refine w_ fun d => ?_
    refine callQ (cf _) fun w1 hE1 hs1 => ?_
    by_cases t1 : r.tn < 1
    · refine w_ fun d => ?_
      exact ⟨by rw [hm], ext_⟩
    by_cases t2 : 8 < r.tn
    · refine w_ fun d => ?_
      exact ⟨by rw [hm], ext_⟩
    by_cases t3 : r.n < 0
    · refine w_ fun d => ?_
      exact ⟨by rw [hm], ext_⟩
    by_cases t4 : mo < r.n
    · refine w_ fun d => ?_
      intro w2 hE2 hs2
      refine w_ fun d => ?_
      exact ⟨by rw [hm], ext_⟩
    by_cases t5 : r.bit < 0
    · refine w_ fun d => ?_
      intro w2 hE2 hs2
      refine w_ fun d => ?_
      exact ⟨by rw [hm], ext_⟩
    have t6 : 1 < r.bit := by omega
    refine w_ fun d => ?_
    intro w2 hE2 hs2
    refine w_ fun d => ?_
    exact ⟨by rw [hm], ext_⟩
  have hmf : mayF r = ((decide (0 ∈ pl r.op) || decide (r.a = 0)) && ((decide (1 ∈ pl r.op) || decide (r.b = 0)) && ((decide (2 ∈ pl r.op) || decide (r.c = 0)) && (decide (5 ∈ pl r.op) || decide (r.bit = 0))))) := by
    unfold mayF
    rw [hsome, hmo, Bool.eq_iff_iff]
    simp only [Bool.and_eq_true, Bool.or_eq_true, decide_eq_true_eq]
    exact ⟨fun h => ⟨h.2.2.2.2.2.2.1, h.2.2.2.2.2.2.2.1, h.2.2.2.2.2.2.2.2.1, h.2.2.2.2.2.2.2.2.2⟩, fun h => ⟨hg.1, hg.2.1, hg.2.2.1, hg.2.2.2.1, hg.2.2.2.2.1, hg.2.2.2.2.2, h.1, h.2.1, h.2.2.1, h.2.2.2⟩⟩
  clear hsome hmo
  generalize ba (formL r.op) = F at *
  obtain ⟨g1, g2, g3, g4, g5, g6⟩ := hg
  generalize decide (0 ∈ pl r.op) = q0 at *
  generalize decide (1 ∈ pl r.op) = q1 at *
  generalize decide (2 ∈ pl r.op) = q2 at *
  generalize decide (5 ∈ pl r.op) = q5 at *
  generalize mayF r = M at *
  refine en1 Try.func55 Try.results55 mixed [] ?_
  intro e0 h0
  refine w_ fun d => ?_
  refine callQ (cf _) fun w1 hE1 hs1 => ?_
  refine w_ fun d => ?_
  intro w2 hE2 hs2
  refine w_ fun d => ?_
  refine callQ (cA _) fun w3 hE3 hs3 => ?_
  refine w_ fun d => ?_
  refine callQ (cB _) fun w4 hE4 hs4 => ?_
  refine w_ fun d => ?_
  refine callQ (cC _) fun w5 hE5 hs5 => ?_
  refine w_ fun d => ?_
  refine callQ (cb _) fun w6 hE6 hs6 => ?_
  clear cA cB cC cb cf cm hq
  rcases q0 with _ | _
  · by_cases z0 : r.a = 0
    · rcases q1 with _ | _
      · by_cases z1 : r.b = 0
        · rcases q2 with _ | _
          · by_cases z2 : r.c = 0
            · rcases q5 with _ | _
              · by_cases z3 : r.bit = 0
                · have hM : M = true := by rw [hmf]; simp [z0, z1, z2, z3]
                  clear hmf
                  refine w_ fun d => ?_
                  exact ⟨by rw [hM], ext_⟩
                · have hM : M = false := by rw [hmf]; simp [z0, z1, z2, z3]
                  clear hmf
                  refine w_ fun d => ?_
                  exact ⟨by rw [hM], ext_⟩
              · have hM : M = true := by rw [hmf]; simp [z0, z1, z2]
                clear hmf
                refine w_ fun d => ?_
                exact ⟨by rw [hM], ext_⟩
            · have hM : M = false := by rw [hmf]; simp [z0, z1, z2]
              clear hmf
              refine w_ fun d => ?_
              exact ⟨by rw [hM], ext_⟩
          · rcases q5 with _ | _
            · by_cases z3 : r.bit = 0
              · have hM : M = true := by rw [hmf]; simp [z0, z1, z3]
                clear hmf
                refine w_ fun d => ?_
                exact ⟨by rw [hM], ext_⟩
              · have hM : M = false := by rw [hmf]; simp [z0, z1, z3]
                clear hmf
                refine w_ fun d => ?_
                exact ⟨by rw [hM], ext_⟩
            · have hM : M = true := by rw [hmf]; simp [z0, z1]
              clear hmf
              refine w_ fun d => ?_
              exact ⟨by rw [hM], ext_⟩
        · have hM : M = false := by rw [hmf]; simp [z0, z1]
          clear hmf
          refine w_ fun d => ?_
          exact ⟨by rw [hM], ext_⟩
      · rcases q2 with _ | _
        · by_cases z2 : r.c = 0
          · rcases q5 with _ | _
            · by_cases z3 : r.bit = 0
              · have hM : M = true := by rw [hmf]; simp [z0, z2, z3]
                clear hmf
                refine w_ fun d => ?_
                exact ⟨by rw [hM], ext_⟩
              · have hM : M = false := by rw [hmf]; simp [z0, z2, z3]
                clear hmf
                refine w_ fun d => ?_
                exact ⟨by rw [hM], ext_⟩
            · have hM : M = true := by rw [hmf]; simp [z0, z2]
              clear hmf
              refine w_ fun d => ?_
              exact ⟨by rw [hM], ext_⟩
          · have hM : M = false := by rw [hmf]; simp [z0, z2]
            clear hmf
            refine w_ fun d => ?_
            exact ⟨by rw [hM], ext_⟩
        · rcases q5 with _ | _
          · by_cases z3 : r.bit = 0
            · have hM : M = true := by rw [hmf]; simp [z0, z3]
              clear hmf
              refine w_ fun d => ?_
              exact ⟨by rw [hM], ext_⟩
            · have hM : M = false := by rw [hmf]; simp [z0, z3]
              clear hmf
              refine w_ fun d => ?_
              exact ⟨by rw [hM], ext_⟩
          · have hM : M = true := by rw [hmf]; simp [z0]
            clear hmf
            refine w_ fun d => ?_
            exact ⟨by rw [hM], ext_⟩
    · have hM : M = false := by rw [hmf]; simp [z0]
      clear hmf
      refine w_ fun d => ?_
      exact ⟨by rw [hM], ext_⟩
  · rcases q1 with _ | _
    · by_cases z1 : r.b = 0
      · rcases q2 with _ | _
        · by_cases z2 : r.c = 0
          · rcases q5 with _ | _
            · by_cases z3 : r.bit = 0
              · have hM : M = true := by rw [hmf]; simp [z1, z2, z3]
                clear hmf
                refine w_ fun d => ?_
                exact ⟨by rw [hM], ext_⟩
              · have hM : M = false := by rw [hmf]; simp [z1, z2, z3]
                clear hmf
                refine w_ fun d => ?_
                exact ⟨by rw [hM], ext_⟩
            · have hM : M = true := by rw [hmf]; simp [z1, z2]
              clear hmf
              refine w_ fun d => ?_
              exact ⟨by rw [hM], ext_⟩
          · have hM : M = false := by rw [hmf]; simp [z1, z2]
            clear hmf
            refine w_ fun d => ?_
            exact ⟨by rw [hM], ext_⟩
        · rcases q5 with _ | _
          · by_cases z3 : r.bit = 0
            · have hM : M = true := by rw [hmf]; simp [z1, z3]
              clear hmf
              refine w_ fun d => ?_
              exact ⟨by rw [hM], ext_⟩
            · have hM : M = false := by rw [hmf]; simp [z1, z3]
              clear hmf
              refine w_ fun d => ?_
              exact ⟨by rw [hM], ext_⟩
          · have hM : M = true := by rw [hmf]; simp [z1]
            clear hmf
            refine w_ fun d => ?_
            exact ⟨by rw [hM], ext_⟩
      · have hM : M = false := by rw [hmf]; simp [z1]
        clear hmf
        refine w_ fun d => ?_
        exact ⟨by rw [hM], ext_⟩
    · rcases q2 with _ | _
      · by_cases z2 : r.c = 0
        · rcases q5 with _ | _
          · by_cases z3 : r.bit = 0
            · have hM : M = true := by rw [hmf]; simp [z2, z3]
              clear hmf
              refine w_ fun d => ?_
              exact ⟨by rw [hM], ext_⟩
            · have hM : M = false := by rw [hmf]; simp [z2, z3]
              clear hmf
              refine w_ fun d => ?_
              exact ⟨by rw [hM], ext_⟩
          · have hM : M = true := by rw [hmf]; simp [z2]
            clear hmf
            refine w_ fun d => ?_
            exact ⟨by rw [hM], ext_⟩
        · have hM : M = false := by rw [hmf]; simp [z2]
          clear hmf
          refine w_ fun d => ?_
          exact ⟨by rw [hM], ext_⟩
      · rcases q5 with _ | _
        · by_cases z3 : r.bit = 0
          · have hM : M = true := by rw [hmf]; simp [z3]
            clear hmf
            refine w_ fun d => ?_
            exact ⟨by rw [hM], ext_⟩
          · have hM : M = false := by rw [hmf]; simp [z3]
            clear hmf
            refine w_ fun d => ?_
            exact ⟨by rw [hM], ext_⟩
        · have hM : M = true := by rw [hmf]; simp
          clear hmf
          refine w_ fun d => ?_
          exact ⟨by rw [hM], ext_⟩
end Go.Proofs.Ytghcmogbmaedfaa
