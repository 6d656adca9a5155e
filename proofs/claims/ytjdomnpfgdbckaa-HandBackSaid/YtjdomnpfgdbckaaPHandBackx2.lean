-- PRINTED BY print.sh 35421559b90ae4d0a3588c463048766b98c2df88dd9212a6774a882060cdf62d: not written by this session
import Derived.Test.YtjdomnpfgdbckaaPHandBackx0
import Derived.Test.YtjdomnpfgdbckaaPHandBackx1
namespace Go.Proofs.Ytjdomnpfgdbckaa.PHandBack
open Go.RowKit Go.Proofs.YtjdomnpfgdbckaaW.PrintWords Go.Proofs.YtjdomnpfgdbckaaW.PrintLast Go.Proofs.YtjdomnpfgdbckaaW.PrintMore
attribute [local go_sem] max2_int min2_int max_two min_two max_three min_three max_four min_four   -- for this text's walks alone
set_option linter.unusedVariables false
set_option linter.unusedSimpArgs false

/-! ### bowerlaw15_HandBack: function 4 -/
mutual
def bowerlaw15_HandBack.j0 : Nat → Int → Int → Int → Int → Int → Int → Int → Bool → Int → Bool → Option (Bool)
  | 0, _, _, _, _, _, _, _, _, _, _ => none
  | k + 1, x0, x1, x2, x3, x4, x5, x6, x15, x16, x17 => (hand_Unpack.f x16).bind fun bt110 => (if (bt110.2.2.2 != x17) = true then (bowerlaw15_HandBack.j1 k x0 x1 x2 x3 x4 x5 x6 x15 x16 x17 true) else (if ((x16 != 0) != x17) = true then (bowerlaw15_HandBack.j1 k x0 x1 x2 x3 x4 x5 x6 x15 x16 x17 true) else (if x17 = true then (if bt110.1 = x0 then (if bt110.2.1 = x1 then (bowerlaw15_HandBack.j1 k x0 x1 x2 x3 x4 x5 x6 x15 x16 x17 (bt110.2.2.1 != x2)) else (bowerlaw15_HandBack.j1 k x0 x1 x2 x3 x4 x5 x6 x15 x16 x17 true)) else (bowerlaw15_HandBack.j1 k x0 x1 x2 x3 x4 x5 x6 x15 x16 x17 true)) else (bowerlaw15_HandBack.j1 k x0 x1 x2 x3 x4 x5 x6 x15 x16 x17 false))))
def bowerlaw15_HandBack.j1 : Nat → Int → Int → Int → Int → Int → Int → Int → Bool → Int → Bool → Bool → Option (Bool)
  | 0, _, _, _, _, _, _, _, _, _, _, _ => none
  | k + 1, x0, x1, x2, x3, x4, x5, x6, x15, x16, x17, x91 => if x91 = true then (some false) else ((hand_Pack.f x0 x3 x4).bind fun t114 => (if x16 = 0 then (bowerlaw15_HandBack.j2 k x0 x1 x2 x5 x6 x15 x16 x17 false) else (if t114 = 0 then (bowerlaw15_HandBack.j2 k x0 x1 x2 x5 x6 x15 x16 x17 false) else (if x1 = x3 then (bowerlaw15_HandBack.j2 k x0 x1 x2 x5 x6 x15 x16 x17 ((x16 == t114) != (x2 == x4))) else (bowerlaw15_HandBack.j2 k x0 x1 x2 x5 x6 x15 x16 x17 ((x16 == t114) != false))))))
def bowerlaw15_HandBack.j2 : Nat → Int → Int → Int → Int → Int → Bool → Int → Bool → Bool → Option (Bool)
  | 0, _, _, _, _, _, _, _, _, _ => none
  | k + 1, x0, x1, x2, x5, x6, x15, x16, x17, x115 => if x115 = true then (some false) else ((hand_Unpack.f x5).bind fun bt115 => (if bt115.2.2.2 = true then ((hand_Pack.f bt115.1 bt115.2.1 bt115.2.2.1).bind fun t119 => (bowerlaw15_HandBack.j3 k x0 x1 x2 x6 x15 x16 x17 (t119 != x5))) else (bowerlaw15_HandBack.j3 k x0 x1 x2 x6 x15 x16 x17 false)))
def bowerlaw15_HandBack.j3 : Nat → Int → Int → Int → Int → Bool → Int → Bool → Bool → Option (Bool)
  | 0, _, _, _, _, _, _, _, _ => none
  | k + 1, x0, x1, x2, x6, x15, x16, x17, x131 => if x131 = true then (some false) else (if x6 < 0 then (some x15) else (if x6 > 63 then (some x15) else (if x17 = true then (if 0 ≤ (IntKind.u64.wrap (x6)) then ((hand_Unpack.f (Go.bits .xor .u64 x16 (shl .u64 1 (IntKind.u64.wrap (x6))))).bind fun bt120 => (if x15 = true then (if bt120.2.2.2 = true then (if bt120.1 = x0 then (if bt120.2.1 = x1 then (some (bt120.2.2.1 != x2)) else (some true)) else (some true)) else (some true)) else (some false))) else (none)) else (some x15))))
end
def bowerlaw15_HandBack.f (k : Nat) (a0 : Int) (a1 : Int) (a2 : Int) (a3 : Int) (a4 : Int) (a5 : Int) (a6 : Int) : Option (Bool) := (bowerlaw15_up.f).bind fun t108 => ((hand_Pack.f a0 a1 a2).bind fun t109 => (if a0 ≥ 1 then (if a0 ≤ 8 then (if a1 ≥ 0 then (if a1 ≤ 15 then (if a2 ≥ 0 then (bowerlaw15_HandBack.j0 k a0 a1 a2 a3 a4 a5 a6 t108 t109 (decide (a2 ≤ 15))) else (bowerlaw15_HandBack.j0 k a0 a1 a2 a3 a4 a5 a6 t108 t109 false)) else (bowerlaw15_HandBack.j0 k a0 a1 a2 a3 a4 a5 a6 t108 t109 false)) else (bowerlaw15_HandBack.j0 k a0 a1 a2 a3 a4 a5 a6 t108 t109 false)) else (bowerlaw15_HandBack.j0 k a0 a1 a2 a3 a4 a5 a6 t108 t109 false)) else (bowerlaw15_HandBack.j0 k a0 a1 a2 a3 a4 a5 a6 t108 t109 false)))
theorem bowerlaw15_HandBack.mono_l : ∀ k, (∀ y0 y1 y2 y3 y4 y5 y6 y7 y8 y9, LeO (bowerlaw15_HandBack.j0 k y0 y1 y2 y3 y4 y5 y6 y7 y8 y9) (bowerlaw15_HandBack.j0 (k + 1) y0 y1 y2 y3 y4 y5 y6 y7 y8 y9)) ∧ (∀ y0 y1 y2 y3 y4 y5 y6 y7 y8 y9 y10, LeO (bowerlaw15_HandBack.j1 k y0 y1 y2 y3 y4 y5 y6 y7 y8 y9 y10) (bowerlaw15_HandBack.j1 (k + 1) y0 y1 y2 y3 y4 y5 y6 y7 y8 y9 y10)) ∧ (∀ y0 y1 y2 y3 y4 y5 y6 y7 y8, LeO (bowerlaw15_HandBack.j2 k y0 y1 y2 y3 y4 y5 y6 y7 y8) (bowerlaw15_HandBack.j2 (k + 1) y0 y1 y2 y3 y4 y5 y6 y7 y8)) ∧ (∀ y0 y1 y2 y3 y4 y5 y6 y7, LeO (bowerlaw15_HandBack.j3 k y0 y1 y2 y3 y4 y5 y6 y7) (bowerlaw15_HandBack.j3 (k + 1) y0 y1 y2 y3 y4 y5 y6 y7))
  | 0 => ⟨fun _ _ _ _ _ _ _ _ _ _ r h => by simp [bowerlaw15_HandBack.j0] at h, fun _ _ _ _ _ _ _ _ _ _ _ r h => by simp [bowerlaw15_HandBack.j1] at h, fun _ _ _ _ _ _ _ _ _ r h => by simp [bowerlaw15_HandBack.j2] at h, fun _ _ _ _ _ _ _ _ r h => by simp [bowerlaw15_HandBack.j3] at h⟩
  | k + 1 => by
    obtain ⟨ih0, ih1, ih2, ih3⟩ := bowerlaw15_HandBack.mono_l k
    refine ⟨?_, ?_, ?_, ?_⟩
    · intro y0 y1 y2 y3 y4 y5 y6 y7 y8 y9
      unfold bowerlaw15_HandBack.j0
      repeat' first
      | (with_reducible exact ih0 _ _ _ _ _ _ _ _ _ _)
      | (with_reducible exact ih1 _ _ _ _ _ _ _ _ _ _ _)
      | (with_reducible exact ih2 _ _ _ _ _ _ _ _ _)
      | (with_reducible exact ih3 _ _ _ _ _ _ _ _)
      | (with_reducible exact LeO.refl _)
      | (with_reducible exact LeO.none _)
      | (with_reducible refine LeO.ite ?_ ?_)
      | (with_reducible refine LeO.bind ?_ (fun _ => ?_))
      | exact ih0 _ _ _ _ _ _ _ _ _ _
      | exact ih1 _ _ _ _ _ _ _ _ _ _ _
      | exact ih2 _ _ _ _ _ _ _ _ _
      | exact ih3 _ _ _ _ _ _ _ _
      | exact LeO.none _
      | refine LeO.ite ?_ ?_
      | refine LeO.bind ?_ (fun _ => ?_)
    · intro y0 y1 y2 y3 y4 y5 y6 y7 y8 y9 y10
      unfold bowerlaw15_HandBack.j1
      repeat' first
      | (with_reducible exact ih0 _ _ _ _ _ _ _ _ _ _)
      | (with_reducible exact ih1 _ _ _ _ _ _ _ _ _ _ _)
      | (with_reducible exact ih2 _ _ _ _ _ _ _ _ _)
      | (with_reducible exact ih3 _ _ _ _ _ _ _ _)
      | (with_reducible exact LeO.refl _)
      | (with_reducible exact LeO.none _)
      | (with_reducible refine LeO.ite ?_ ?_)
      | (with_reducible refine LeO.bind ?_ (fun _ => ?_))
      | exact ih0 _ _ _ _ _ _ _ _ _ _
      | exact ih1 _ _ _ _ _ _ _ _ _ _ _
      | exact ih2 _ _ _ _ _ _ _ _ _
      | exact ih3 _ _ _ _ _ _ _ _
      | exact LeO.none _
      | refine LeO.ite ?_ ?_
      | refine LeO.bind ?_ (fun _ => ?_)
    · intro y0 y1 y2 y3 y4 y5 y6 y7 y8
      unfold bowerlaw15_HandBack.j2
      repeat' first
      | (with_reducible exact ih0 _ _ _ _ _ _ _ _ _ _)
      | (with_reducible exact ih1 _ _ _ _ _ _ _ _ _ _ _)
      | (with_reducible exact ih2 _ _ _ _ _ _ _ _ _)
      | (with_reducible exact ih3 _ _ _ _ _ _ _ _)
      | (with_reducible exact LeO.refl _)
      | (with_reducible exact LeO.none _)
      | (with_reducible refine LeO.ite ?_ ?_)
      | (with_reducible refine LeO.bind ?_ (fun _ => ?_))
      | exact ih0 _ _ _ _ _ _ _ _ _ _
      | exact ih1 _ _ _ _ _ _ _ _ _ _ _
      | exact ih2 _ _ _ _ _ _ _ _ _
      | exact ih3 _ _ _ _ _ _ _ _
      | exact LeO.none _
      | refine LeO.ite ?_ ?_
      | refine LeO.bind ?_ (fun _ => ?_)
    · intro y0 y1 y2 y3 y4 y5 y6 y7
      unfold bowerlaw15_HandBack.j3
      repeat' first
      | (with_reducible exact ih0 _ _ _ _ _ _ _ _ _ _)
      | (with_reducible exact ih1 _ _ _ _ _ _ _ _ _ _ _)
      | (with_reducible exact ih2 _ _ _ _ _ _ _ _ _)
      | (with_reducible exact ih3 _ _ _ _ _ _ _ _)
      | (with_reducible exact LeO.refl _)
      | (with_reducible exact LeO.none _)
      | (with_reducible refine LeO.ite ?_ ?_)
      | (with_reducible refine LeO.bind ?_ (fun _ => ?_))
      | exact ih0 _ _ _ _ _ _ _ _ _ _
      | exact ih1 _ _ _ _ _ _ _ _ _ _ _
      | exact ih2 _ _ _ _ _ _ _ _ _
      | exact ih3 _ _ _ _ _ _ _ _
      | exact LeO.none _
      | refine LeO.ite ?_ ?_
      | refine LeO.bind ?_ (fun _ => ?_)
theorem bowerlaw15_HandBack.mono : ∀ a0 a1 a2 a3 a4 a5 a6 k, LeO (bowerlaw15_HandBack.f k a0 a1 a2 a3 a4 a5 a6) (bowerlaw15_HandBack.f (k + 1) a0 a1 a2 a3 a4 a5 a6) := by
  intro a0 a1 a2 a3 a4 a5 a6 k
  obtain ⟨ih0, ih1, ih2, ih3⟩ := bowerlaw15_HandBack.mono_l k
  unfold bowerlaw15_HandBack.f
  repeat' first
      | (with_reducible exact ih0 _ _ _ _ _ _ _ _ _ _)
      | (with_reducible exact ih1 _ _ _ _ _ _ _ _ _ _ _)
      | (with_reducible exact ih2 _ _ _ _ _ _ _ _ _)
      | (with_reducible exact ih3 _ _ _ _ _ _ _ _)
      | (with_reducible exact LeO.refl _)
      | (with_reducible exact LeO.none _)
      | (with_reducible refine LeO.ite ?_ ?_)
      | (with_reducible refine LeO.bind ?_ (fun _ => ?_))
      | exact ih0 _ _ _ _ _ _ _ _ _ _
      | exact ih1 _ _ _ _ _ _ _ _ _ _ _
      | exact ih2 _ _ _ _ _ _ _ _ _
      | exact ih3 _ _ _ _ _ _ _ _
      | exact LeO.none _
      | refine LeO.ite ?_ ?_
      | refine LeO.bind ?_ (fun _ => ?_)
set_option maxHeartbeats 8000000 in
set_option maxRecDepth 100000 in
theorem bowerlaw15_HandBack.calls (k : Nat) (a0 : Int) (a1 : Int) (a2 : Int) (a3 : Int) (a4 : Int) (a5 : Int) (a6 : Int) (r : Bool) (w : World) (h : bowerlaw15_HandBack.f k a0 a1 a2 a3 a4 a5 a6 = some r) :
    Calls Try.prog 4 #[.int .i64 a0, .int .i64 a1, .int .i64 a2, .int .i64 a3, .int .i64 a4, .int .u64 a5, .int .i64 a6] w fun e w' => e = .returned (.bool r) ∧ Drawn0 w w' := by
  have H : ((bowerlaw15_up.f).bind fun t108 => ((hand_Pack.f a0 a1 a2).bind fun t109 => (if a0 ≥ 1 then (if a0 ≤ 8 then (if a1 ≥ 0 then (if a1 ≤ 15 then (if a2 ≥ 0 then (bowerlaw15_HandBack.j0 k a0 a1 a2 a3 a4 a5 a6 t108 t109 (decide (a2 ≤ 15))) else (bowerlaw15_HandBack.j0 k a0 a1 a2 a3 a4 a5 a6 t108 t109 false)) else (bowerlaw15_HandBack.j0 k a0 a1 a2 a3 a4 a5 a6 t108 t109 false)) else (bowerlaw15_HandBack.j0 k a0 a1 a2 a3 a4 a5 a6 t108 t109 false)) else (bowerlaw15_HandBack.j0 k a0 a1 a2 a3 a4 a5 a6 t108 t109 false)) else (bowerlaw15_HandBack.j0 k a0 a1 a2 a3 a4 a5 a6 t108 t109 false)))) = some r := h
  clear h
  replace H := Option.bind_eq_some_iff.mp H
  obtain ⟨t108, A80, H⟩ := H
  replace H : ((hand_Pack.f a0 a1 a2).bind fun t109 => (if a0 ≥ 1 then (if a0 ≤ 8 then (if a1 ≥ 0 then (if a1 ≤ 15 then (if a2 ≥ 0 then (bowerlaw15_HandBack.j0 k a0 a1 a2 a3 a4 a5 a6 t108 t109 (decide (a2 ≤ 15))) else (bowerlaw15_HandBack.j0 k a0 a1 a2 a3 a4 a5 a6 t108 t109 false)) else (bowerlaw15_HandBack.j0 k a0 a1 a2 a3 a4 a5 a6 t108 t109 false)) else (bowerlaw15_HandBack.j0 k a0 a1 a2 a3 a4 a5 a6 t108 t109 false)) else (bowerlaw15_HandBack.j0 k a0 a1 a2 a3 a4 a5 a6 t108 t109 false)) else (bowerlaw15_HandBack.j0 k a0 a1 a2 a3 a4 a5 a6 t108 t109 false))) = some r := H
  have A8 := Aside0.mk A80
  clear A80
  replace H := Option.bind_eq_some_iff.mp H
  obtain ⟨t109, A90, H⟩ := H
  replace H : (if a0 ≥ 1 then (if a0 ≤ 8 then (if a1 ≥ 0 then (if a1 ≤ 15 then (if a2 ≥ 0 then (bowerlaw15_HandBack.j0 k a0 a1 a2 a3 a4 a5 a6 t108 t109 (decide (a2 ≤ 15))) else (bowerlaw15_HandBack.j0 k a0 a1 a2 a3 a4 a5 a6 t108 t109 false)) else (bowerlaw15_HandBack.j0 k a0 a1 a2 a3 a4 a5 a6 t108 t109 false)) else (bowerlaw15_HandBack.j0 k a0 a1 a2 a3 a4 a5 a6 t108 t109 false)) else (bowerlaw15_HandBack.j0 k a0 a1 a2 a3 a4 a5 a6 t108 t109 false)) else (bowerlaw15_HandBack.j0 k a0 a1 a2 a3 a4 a5 a6 t108 t109 false)) = some r := H
  have A9 := Aside0.mk A90
  clear A90
  have HC10 := Aside0.mk H
  clear H
  go_enter Try.func4, Try.ntmps4
  go_upto_region 3 with (first | ((with_reducible refine gate_callee (f := 15) rfl ?_); refine goesL_ (some 31) rfl rfl Try.func15 (by kernel_rfl) rfl #[] rfl (by (try simp only [List.map_toArray, List.map_cons, List.map_nil]); first | done | rfl | (simp only [List.length_drop, List.length_take]; rfl)) ?_; (with_reducible refine (bowerlaw15_up.calls  t108 _ A8.out).mono ?_); rintro e w' ⟨rfl, ⟨nd, rfl⟩⟩; refine ⟨_, rfl, ?_⟩) | ((with_reducible refine gate_callee (f := 18) rfl ?_); refine goesL_ (some 35) rfl rfl Try.func18 (by kernel_rfl) rfl #[.int .i64 a0, .int .i64 a1, .int .i64 a2] rfl (by (try simp only [List.map_toArray, List.map_cons, List.map_nil]); first | done | rfl | (simp only [List.length_drop, List.length_take]; rfl)) ?_; (with_reducible refine (hand_Pack.calls a0 a1 a2 t109 _ A9.out).mono ?_); rintro e w' ⟨rfl, ⟨nd, rfl⟩⟩; refine ⟨_, rfl, ?_⟩))
  (try simp only [Act.put, List.setIfInBounds_toArray, List.set_cons_zero, List.set_cons_succ])
  go_cut [17] (fun v17 wc => ∃ (kq : Nat) (x17_9 : Bool), v17 = .bool x17_9 ∧ Aside0 (bowerlaw15_HandBack.j0 kq a0 a1 a2 a3 a4 a5 a6 t108 t109 x17_9 = some r) ∧ Aside0 (kq ≤ k) ∧ Drawn0 w wc)
  case first =>
    have H := HC10.out
    clear HC10
    by_cases c11 : a0 ≥ 1
    · rw [if_pos c11] at H
      have c11b0 : decide (1 ≤ a0) = true := decide_eq_true c11
      clear c11
      (first | rw [c11b0] | (simp only [i64_w, i32_w]; rw [c11b0]) | skip)
      by_cases c12 : a0 ≤ 8
      · rw [if_pos c12] at H
        have c12b0 : decide (a0 ≤ 8) = true := decide_eq_true c12
        clear c12
        by_cases c13 : a1 ≥ 0
        · rw [if_pos c13] at H
          have c13b0 : decide (0 ≤ a1) = true := decide_eq_true c13
          clear c13
          by_cases c14 : a1 ≤ 15
          · rw [if_pos c14] at H
            have c14b0 : decide (a1 ≤ 15) = true := decide_eq_true c14
            clear c14
            by_cases c15 : a2 ≥ 0
            · rw [if_pos c15] at H
              have c15b0 : decide (0 ≤ a2) = true := decide_eq_true c15
              clear c15
              have H' := Aside0.mk H
              clear H
              go_wp2
              go_meet
              case rel => exact ⟨_, (decide (a2 ≤ 15)), (by first | rfl | (simp; done) | (simp [*]; done)), H', ⟨by first | omega | exact Nat.le_refl _⟩, by repeat (first | exact Drawn0.refl _ | apply Drawn0.step)⟩
            · rw [if_neg c15] at H
              have c15b0 : decide (0 ≤ a2) = false := decide_eq_false c15
              clear c15
              have H' := Aside0.mk H
              clear H
              go_wp2
              go_meet
              case rel => exact ⟨_, (false), (by first | rfl | (simp; done) | (simp [*]; done)), H', ⟨by first | omega | exact Nat.le_refl _⟩, by repeat (first | exact Drawn0.refl _ | apply Drawn0.step)⟩
          · rw [if_neg c14] at H
            have c14b0 : decide (a1 ≤ 15) = false := decide_eq_false c14
            clear c14
            have H' := Aside0.mk H
            clear H
            go_wp2
            go_meet
            case rel => exact ⟨_, (false), (by first | rfl | (simp; done) | (simp [*]; done)), H', ⟨by first | omega | exact Nat.le_refl _⟩, by repeat (first | exact Drawn0.refl _ | apply Drawn0.step)⟩
        · rw [if_neg c13] at H
          have c13b0 : decide (0 ≤ a1) = false := decide_eq_false c13
          clear c13
          have H' := Aside0.mk H
          clear H
          go_wp2
          go_meet
          case rel => exact ⟨_, (false), (by first | rfl | (simp; done) | (simp [*]; done)), H', ⟨by first | omega | exact Nat.le_refl _⟩, by repeat (first | exact Drawn0.refl _ | apply Drawn0.step)⟩
      · rw [if_neg c12] at H
        have c12b0 : decide (a0 ≤ 8) = false := decide_eq_false c12
        clear c12
        have H' := Aside0.mk H
        clear H
        go_wp2
        go_meet
        case rel => exact ⟨_, (false), (by first | rfl | (simp; done) | (simp [*]; done)), H', ⟨by first | omega | exact Nat.le_refl _⟩, by repeat (first | exact Drawn0.refl _ | apply Drawn0.step)⟩
    · rw [if_neg c11] at H
      have c11b0 : decide (1 ≤ a0) = false := decide_eq_false c11
      clear c11
      (first | rw [c11b0] | (simp only [i64_w, i32_w]; rw [c11b0]) | skip)
      have H' := Aside0.mk H
      clear H
      go_wp2
      go_meet
      case rel => exact ⟨_, (false), (by first | rfl | (simp; done) | (simp [*]; done)), H', ⟨by first | omega | exact Nat.le_refl _⟩, by repeat (first | exact Drawn0.refl _ | apply Drawn0.step)⟩
  case rest =>
    clear HC10
    try clear c1
    try clear p2
    try clear c4
    try clear c11
    try clear c11b0
    try clear c12
    try clear c12b0
    try clear c13
    try clear c13b0
    try clear c14
    try clear c14b0
    try clear c15
    try clear c15b0
    obtain ⟨kq, x17_9, rfl, HA, HJ9, ⟨mc9, rfl⟩⟩ := hcut
    cases kq with
    | zero => exact absurd HA.out (by simp [bowerlaw15_HandBack.j0])
    | succ kj9 =>
      have H := HA.out
      clear HA
      simp only [bowerlaw15_HandBack.j0] at H
      replace H := Option.bind_eq_some_iff.mp H
      obtain ⟨⟨t110, t111, t112, t113⟩, A160, H⟩ := H
      replace H : (if (t113 != x17_9) = true then (bowerlaw15_HandBack.j1 kj9 a0 a1 a2 a3 a4 a5 a6 t108 t109 x17_9 true) else (if ((t109 != 0) != x17_9) = true then (bowerlaw15_HandBack.j1 kj9 a0 a1 a2 a3 a4 a5 a6 t108 t109 x17_9 true) else (if x17_9 = true then (if t110 = a0 then (if t111 = a1 then (bowerlaw15_HandBack.j1 kj9 a0 a1 a2 a3 a4 a5 a6 t108 t109 x17_9 (t112 != a2)) else (bowerlaw15_HandBack.j1 kj9 a0 a1 a2 a3 a4 a5 a6 t108 t109 x17_9 true)) else (bowerlaw15_HandBack.j1 kj9 a0 a1 a2 a3 a4 a5 a6 t108 t109 x17_9 true)) else (bowerlaw15_HandBack.j1 kj9 a0 a1 a2 a3 a4 a5 a6 t108 t109 x17_9 false)))) = some r := H
      have A16 := Aside0.mk A160
      clear A160
      have HC17 := Aside0.mk H
      clear H
      go_upto_region 5 with (first | ((with_reducible refine gate_callee (f := 16) rfl ?_); refine goesL_ (some 60) rfl rfl Try.func16 (by kernel_rfl) rfl #[.int .u64 t109] rfl (by (try simp only [List.map_toArray, List.map_cons, List.map_nil]); first | done | rfl | (simp only [List.length_drop, List.length_take]; rfl)) ?_; (with_reducible refine (hand_Unpack.calls t109 t110 t111 t112 t113 _ A16.out).mono ?_); rintro e w' ⟨rfl, ⟨nd, rfl⟩⟩; refine ⟨_, rfl, ?_⟩))
      (try simp only [Act.put, List.setIfInBounds_toArray, List.set_cons_zero, List.set_cons_succ])
      go_cut [91] (fun v91 wc => ∃ (kq : Nat) (x91_16 : Bool), v91 = .bool x91_16 ∧ Aside0 (bowerlaw15_HandBack.j1 kq a0 a1 a2 a3 a4 a5 a6 t108 t109 x17_9 x91_16 = some r) ∧ Aside0 (kq ≤ kj9) ∧ Drawn0 w wc)
      case first =>
        have H := HC17.out
        clear HC17
        by_cases c18 : (t113 != x17_9) = true
        · rw [if_pos c18] at H
          have c18b0 : (t113 != x17_9) = true := c18
          (try (have c18b1 : decide (t113 = x17_9) = false := by simpa using c18))
          (try (have c18b2 : (t113 == x17_9) = false := by simpa using c18))
          (try (have c18b3 : ¬ (t113 = x17_9) := by simpa using c18))
          clear c18
          (first | rw [c18b0] | (simp only [i64_w, i32_w]; rw [c18b0]) | skip)
          have H' := Aside0.mk H
          clear H
          go_wp2
          go_meet
          case rel => exact ⟨_, (true), (by first | rfl | (simp; done) | (simp [*]; done)), H', ⟨by have := HJ9.out; first | omega | exact Nat.le_refl _⟩, by repeat (first | exact Drawn0.refl _ | apply Drawn0.step)⟩
        · rw [if_neg c18] at H
          have c18b0 : (t113 != x17_9) = false := by simpa using c18
          (try (have c18b1 : decide (t113 = x17_9) = true := by simpa using c18))
          (try (have c18b2 : (t113 == x17_9) = true := by simpa using c18))
          clear c18
          (first | rw [c18b0] | (simp only [i64_w, i32_w]; rw [c18b0]) | skip)
          by_cases c19 : ((t109 != 0) != x17_9) = true
          · rw [if_pos c19] at H
            have c19b0 : ((t109 != 0) != x17_9) = true := c19
            (try (have c19b1 : decide ((t109 != 0) = x17_9) = false := by simpa using c19))
            (try (have c19b2 : ((t109 != 0) == x17_9) = false := by simpa using c19))
            (try (have c19b3 : ¬ ((t109 != 0) = x17_9) := by simpa using c19))
            clear c19
            have H' := Aside0.mk H
            clear H
            go_wp2
            go_meet
            case rel => exact ⟨_, (true), (by first | rfl | (simp; done) | (simp [*]; done)), H', ⟨by have := HJ9.out; first | omega | exact Nat.le_refl _⟩, by repeat (first | exact Drawn0.refl _ | apply Drawn0.step)⟩
          · rw [if_neg c19] at H
            have c19b0 : ((t109 != 0) != x17_9) = false := by simpa using c19
            (try (have c19b1 : decide ((t109 != 0) = x17_9) = true := by simpa using c19))
            (try (have c19b2 : ((t109 != 0) == x17_9) = true := by simpa using c19))
            clear c19
            by_cases c20 : x17_9 = true
            · subst c20
              have H1 : (if t110 = a0 then (if t111 = a1 then (bowerlaw15_HandBack.j1 kj9 a0 a1 a2 a3 a4 a5 a6 t108 t109 true (t112 != a2)) else (bowerlaw15_HandBack.j1 kj9 a0 a1 a2 a3 a4 a5 a6 t108 t109 true true)) else (bowerlaw15_HandBack.j1 kj9 a0 a1 a2 a3 a4 a5 a6 t108 t109 true true)) = some r := by rw [if_pos rfl] at H; exact H
              clear H
              have H := H1
              clear H1
              by_cases c21 : t110 = a0
              · rw [if_pos c21] at H
                have c21b0 : (t110 == a0) = true := beq_iff_eq.mpr c21
                have c21b1 : (t110 != a0) = false := bne_eq_false_iff_eq.mpr c21
                clear c21
                by_cases c22 : t111 = a1
                · rw [if_pos c22] at H
                  have c22b0 : (t111 == a1) = true := beq_iff_eq.mpr c22
                  have c22b1 : (t111 != a1) = false := bne_eq_false_iff_eq.mpr c22
                  clear c22
                  have H' := Aside0.mk H
                  clear H
                  go_wp2
                  go_meet
                  case rel => exact ⟨_, ((t112 != a2)), (by first | rfl | (simp; done) | (simp [*]; done)), H', ⟨by have := HJ9.out; first | omega | exact Nat.le_refl _⟩, by repeat (first | exact Drawn0.refl _ | apply Drawn0.step)⟩
                · rw [if_neg c22] at H
                  have c22b0 : (t111 == a1) = false := beq_eq_false_iff_ne.mpr c22
                  have c22b1 : (t111 != a1) = true := bne_iff_ne.mpr c22
                  have H' := Aside0.mk H
                  clear H
                  go_wp2
                  go_meet
                  case rel => exact ⟨_, (true), (by first | rfl | (simp; done) | (simp [*]; done)), H', ⟨by have := HJ9.out; first | omega | exact Nat.le_refl _⟩, by repeat (first | exact Drawn0.refl _ | apply Drawn0.step)⟩
              · rw [if_neg c21] at H
                have c21b0 : (t110 == a0) = false := beq_eq_false_iff_ne.mpr c21
                have c21b1 : (t110 != a0) = true := bne_iff_ne.mpr c21
                have H' := Aside0.mk H
                clear H
                go_wp2
                go_meet
                case rel => exact ⟨_, (true), (by first | rfl | (simp; done) | (simp [*]; done)), H', ⟨by have := HJ9.out; first | omega | exact Nat.le_refl _⟩, by repeat (first | exact Drawn0.refl _ | apply Drawn0.step)⟩
            · replace c20 := Bool.eq_false_iff.mpr c20
              subst c20
              have H1 : (bowerlaw15_HandBack.j1 kj9 a0 a1 a2 a3 a4 a5 a6 t108 t109 false false) = some r := by rw [if_neg (show ¬ (false = true) by decide)] at H; exact H
              clear H
              have H := H1
              clear H1
              have H' := Aside0.mk H
              clear H
              go_wp2
              go_meet
              case rel => exact ⟨_, (false), (by first | rfl | (simp; done) | (simp [*]; done)), H', ⟨by have := HJ9.out; first | omega | exact Nat.le_refl _⟩, by repeat (first | exact Drawn0.refl _ | apply Drawn0.step)⟩
      case rest =>
        clear HC17
        try clear c1
        try clear c2
        try clear p2
        try clear c4
        try clear c9
        try clear c11
        try clear c11b0
        try clear c12
        try clear c12b0
        try clear c13
        try clear c13b0
        try clear c14
        try clear c14b0
        try clear c15
        try clear c15b0
        try clear c16
        try clear c18
        try clear c18b0
        try clear c18b1
        try clear c18b2
        try clear c19
        try clear c19b0
        try clear c19b1
        try clear c19b2
        try clear c20
        try clear c21
        try clear c21b0
        try clear c21b1
        try clear c22
        try clear c22b0
        try clear c22b1
        try clear p2
        obtain ⟨kq, x91_16, rfl, HA, HJ16, ⟨mc16, rfl⟩⟩ := hcut
        cases kq with
        | zero => exact absurd HA.out (by simp [bowerlaw15_HandBack.j1])
        | succ kj16 =>
          have H := HA.out
          clear HA
          simp only [bowerlaw15_HandBack.j1] at H
          by_cases c23 : x91_16 = true
          · subst c23
            have H1 : (some false) = some r := by rw [if_pos rfl] at H; exact H
            clear H
            have H := H1
            clear H1
            obtain rfl := Option.some.inj H
            go_wp2
            go_ret
            exact ⟨by first | rfl | (simp; done) | (simp [*]; done), by repeat (first | exact Drawn0.refl _ | apply Drawn0.step)⟩
          · replace c23 := Bool.eq_false_iff.mpr c23
            subst c23
            have H1 : ((hand_Pack.f a0 a3 a4).bind fun t114 => (if t109 = 0 then (bowerlaw15_HandBack.j2 kj16 a0 a1 a2 a5 a6 t108 t109 x17_9 false) else (if t114 = 0 then (bowerlaw15_HandBack.j2 kj16 a0 a1 a2 a5 a6 t108 t109 x17_9 false) else (if a1 = a3 then (bowerlaw15_HandBack.j2 kj16 a0 a1 a2 a5 a6 t108 t109 x17_9 ((t109 == t114) != (a2 == a4))) else (bowerlaw15_HandBack.j2 kj16 a0 a1 a2 a5 a6 t108 t109 x17_9 ((t109 == t114) != false)))))) = some r := by rw [if_neg (show ¬ (false = true) by decide)] at H; exact H
            clear H
            have H := H1
            clear H1
            replace H := Option.bind_eq_some_iff.mp H
            obtain ⟨t114, A240, H⟩ := H
            replace H : (if t109 = 0 then (bowerlaw15_HandBack.j2 kj16 a0 a1 a2 a5 a6 t108 t109 x17_9 false) else (if t114 = 0 then (bowerlaw15_HandBack.j2 kj16 a0 a1 a2 a5 a6 t108 t109 x17_9 false) else (if a1 = a3 then (bowerlaw15_HandBack.j2 kj16 a0 a1 a2 a5 a6 t108 t109 x17_9 ((t109 == t114) != (a2 == a4))) else (bowerlaw15_HandBack.j2 kj16 a0 a1 a2 a5 a6 t108 t109 x17_9 ((t109 == t114) != false))))) = some r := H
            have A24 := Aside0.mk A240
            clear A240
            have HC25 := Aside0.mk H
            clear H
            go_upto_region 8 with (first | ((with_reducible refine gate_callee (f := 18) rfl ?_); refine goesL_ (some 95) rfl rfl Try.func18 (by kernel_rfl) rfl #[.int .i64 a0, .int .i64 a3, .int .i64 a4] rfl (by (try simp only [List.map_toArray, List.map_cons, List.map_nil]); first | done | rfl | (simp only [List.length_drop, List.length_take]; rfl)) ?_; (with_reducible refine (hand_Pack.calls a0 a3 a4 t114 _ A24.out).mono ?_); rintro e w' ⟨rfl, ⟨nd, rfl⟩⟩; refine ⟨_, rfl, ?_⟩))
            (try simp only [Act.put, List.setIfInBounds_toArray, List.set_cons_zero, List.set_cons_succ])
            go_cut [115] (fun v115 wc => ∃ (kq : Nat) (x115_24 : Bool), v115 = .bool x115_24 ∧ Aside0 (bowerlaw15_HandBack.j2 kq a0 a1 a2 a5 a6 t108 t109 x17_9 x115_24 = some r) ∧ Aside0 (kq ≤ kj16) ∧ Drawn0 w wc)
            case first =>
              have H := HC25.out
              clear HC25
              by_cases c26 : t109 = 0
              · rw [if_pos c26] at H
                have c26b0 : (t109 == 0) = true := beq_iff_eq.mpr c26
                have c26b1 : (t109 != 0) = false := bne_eq_false_iff_eq.mpr c26
                clear c26
                (first | rw [c26b0] | (simp only [i64_w, i32_w]; rw [c26b0]) | skip)
                have H' := Aside0.mk H
                clear H
                go_wp2
                go_meet
                case rel => exact ⟨_, (false), (by first | rfl | (simp; done) | (simp [*]; done)), H', ⟨by have := HJ9.out; have := HJ16.out; first | omega | exact Nat.le_refl _⟩, by repeat (first | exact Drawn0.refl _ | apply Drawn0.step)⟩
              · rw [if_neg c26] at H
                have c26b0 : (t109 == 0) = false := beq_eq_false_iff_ne.mpr c26
                have c26b1 : (t109 != 0) = true := bne_iff_ne.mpr c26
                (first | rw [c26b0] | (simp only [i64_w, i32_w]; rw [c26b0]) | skip)
                by_cases c27 : t114 = 0
                · rw [if_pos c27] at H
                  have c27b0 : (t114 == 0) = true := beq_iff_eq.mpr c27
                  have c27b1 : (t114 != 0) = false := bne_eq_false_iff_eq.mpr c27
                  clear c27
                  have H' := Aside0.mk H
                  clear H
                  go_wp2
                  go_meet
                  case rel => exact ⟨_, (false), (by first | rfl | (simp; done) | (simp [*]; done)), H', ⟨by have := HJ9.out; have := HJ16.out; first | omega | exact Nat.le_refl _⟩, by repeat (first | exact Drawn0.refl _ | apply Drawn0.step)⟩
                · rw [if_neg c27] at H
                  have c27b0 : (t114 == 0) = false := beq_eq_false_iff_ne.mpr c27
                  have c27b1 : (t114 != 0) = true := bne_iff_ne.mpr c27
                  by_cases c28 : a1 = a3
                  · rw [if_pos c28] at H
                    have c28b0 : (a1 == a3) = true := beq_iff_eq.mpr c28
                    have c28b1 : (a1 != a3) = false := bne_eq_false_iff_eq.mpr c28
                    clear c28
                    have H' := Aside0.mk H
                    clear H
                    go_wp2
                    go_meet
                    case rel => exact ⟨_, (((t109 == t114) != (a2 == a4))), (by first | rfl | (simp; done) | (simp [*]; done)), H', ⟨by have := HJ9.out; have := HJ16.out; first | omega | exact Nat.le_refl _⟩, by repeat (first | exact Drawn0.refl _ | apply Drawn0.step)⟩
                  · rw [if_neg c28] at H
                    have c28b0 : (a1 == a3) = false := beq_eq_false_iff_ne.mpr c28
                    have c28b1 : (a1 != a3) = true := bne_iff_ne.mpr c28
                    have H' := Aside0.mk H
                    clear H
                    go_wp2
                    go_meet
                    case rel => exact ⟨_, (((t109 == t114) != false)), (by first | rfl | (simp; done) | (simp [*]; done)), H', ⟨by have := HJ9.out; have := HJ16.out; first | omega | exact Nat.le_refl _⟩, by repeat (first | exact Drawn0.refl _ | apply Drawn0.step)⟩
            case rest =>
              clear HC25
              try clear c1
              try clear c2
              try clear p2
              try clear c4
              try clear c9
              try clear c11
              try clear c11b0
              try clear c12
              try clear c12b0
              try clear c13
              try clear c13b0
              try clear c14
              try clear c14b0
              try clear c15
              try clear c15b0
              try clear c16
              try clear c18
              try clear c18b0
              try clear c18b1
              try clear c18b2
              try clear c19
              try clear c19b0
              try clear c19b1
              try clear c19b2
              try clear c20
              try clear c21
              try clear c21b0
              try clear c21b1
              try clear c22
              try clear c22b0
              try clear c22b1
              try clear c23
              try clear c26
              try clear c26b0
              try clear c26b1
              try clear c27
              try clear c27b0
              try clear c27b1
              try clear c28
              try clear c28b0
              try clear c28b1
              try clear p2
              obtain ⟨kq, x115_24, rfl, HA, HJ24, ⟨mc24, rfl⟩⟩ := hcut
              cases kq with
              | zero => exact absurd HA.out (by simp [bowerlaw15_HandBack.j2])
              | succ kj24 =>
                have H := HA.out
                clear HA
                simp only [bowerlaw15_HandBack.j2] at H
                by_cases c29 : x115_24 = true
                · subst c29
                  have H1 : (some false) = some r := by rw [if_pos rfl] at H; exact H
                  clear H
                  have H := H1
                  clear H1
                  obtain rfl := Option.some.inj H
                  go_wp2
                  go_ret
                  exact ⟨by first | rfl | (simp; done) | (simp [*]; done), by repeat (first | exact Drawn0.refl _ | apply Drawn0.step)⟩
                · replace c29 := Bool.eq_false_iff.mpr c29
                  subst c29
                  have H1 : ((hand_Unpack.f a5).bind fun bt115 => (if bt115.2.2.2 = true then ((hand_Pack.f bt115.1 bt115.2.1 bt115.2.2.1).bind fun t119 => (bowerlaw15_HandBack.j3 kj24 a0 a1 a2 a6 t108 t109 x17_9 (t119 != a5))) else (bowerlaw15_HandBack.j3 kj24 a0 a1 a2 a6 t108 t109 x17_9 false))) = some r := by rw [if_neg (show ¬ (false = true) by decide)] at H; exact H
                  clear H
                  have H := H1
                  clear H1
                  replace H := Option.bind_eq_some_iff.mp H
                  obtain ⟨⟨t115, t116, t117, t118⟩, A300, H⟩ := H
                  replace H : (if t118 = true then ((hand_Pack.f t115 t116 t117).bind fun t119 => (bowerlaw15_HandBack.j3 kj24 a0 a1 a2 a6 t108 t109 x17_9 (t119 != a5))) else (bowerlaw15_HandBack.j3 kj24 a0 a1 a2 a6 t108 t109 x17_9 false)) = some r := H
                  have A30 := Aside0.mk A300
                  clear A300
                  have HC31 := Aside0.mk H
                  clear H
                  go_upto_region 11 with (first | ((with_reducible refine gate_callee (f := 16) rfl ?_); refine goesL_ (some 118) rfl rfl Try.func16 (by kernel_rfl) rfl #[.int .u64 a5] rfl (by (try simp only [List.map_toArray, List.map_cons, List.map_nil]); first | done | rfl | (simp only [List.length_drop, List.length_take]; rfl)) ?_; (with_reducible refine (hand_Unpack.calls a5 t115 t116 t117 t118 _ A30.out).mono ?_); rintro e w' ⟨rfl, ⟨nd, rfl⟩⟩; refine ⟨_, rfl, ?_⟩))
                  (try simp only [Act.put, List.setIfInBounds_toArray, List.set_cons_zero, List.set_cons_succ])
                  go_cut [131] (fun v131 wc => ∃ (kq : Nat) (x131_30 : Bool), v131 = .bool x131_30 ∧ Aside0 (bowerlaw15_HandBack.j3 kq a0 a1 a2 a6 t108 t109 x17_9 x131_30 = some r) ∧ Aside0 (kq ≤ kj24) ∧ Drawn0 w wc)
                  case first =>
                    have H := HC31.out
                    clear HC31
                    by_cases c32 : t118 = true
                    · subst c32
                      have H1 : ((hand_Pack.f t115 t116 t117).bind fun t119 => (bowerlaw15_HandBack.j3 kj24 a0 a1 a2 a6 t108 t109 x17_9 (t119 != a5))) = some r := by rw [if_pos rfl] at H; exact H
                      clear H
                      have H := H1
                      clear H1
                      replace H := Option.bind_eq_some_iff.mp H
                      obtain ⟨t119, A330, H⟩ := H
                      replace H : (bowerlaw15_HandBack.j3 kj24 a0 a1 a2 a6 t108 t109 x17_9 (t119 != a5)) = some r := H
                      have A33 := Aside0.mk A330
                      clear A330
                      have H' := Aside0.mk H
                      clear H
                      go_wp2_with (first | (go_at_call 18; (with_reducible refine (hand_Pack.calls t115 t116 t117 t119 _ A33.out).mono ?_); rintro e w' ⟨rfl, ⟨nd, rfl⟩⟩))
                      go_meet
                      case rel => exact ⟨_, ((t119 != a5)), (by first | rfl | (simp; done) | (simp [*]; done)), H', ⟨by have := HJ9.out; have := HJ16.out; have := HJ24.out; first | omega | exact Nat.le_refl _⟩, by repeat (first | exact Drawn0.refl _ | apply Drawn0.step)⟩
                    · replace c32 := Bool.eq_false_iff.mpr c32
                      subst c32
                      have H1 : (bowerlaw15_HandBack.j3 kj24 a0 a1 a2 a6 t108 t109 x17_9 false) = some r := by rw [if_neg (show ¬ (false = true) by decide)] at H; exact H
                      clear H
                      have H := H1
                      clear H1
                      have H' := Aside0.mk H
                      clear H
                      go_wp2
                      go_meet
                      case rel => exact ⟨_, (false), (by first | rfl | (simp; done) | (simp [*]; done)), H', ⟨by have := HJ9.out; have := HJ16.out; have := HJ24.out; first | omega | exact Nat.le_refl _⟩, by repeat (first | exact Drawn0.refl _ | apply Drawn0.step)⟩
                  case rest =>
                    clear HC31
                    try clear c1
                    try clear c2
                    try clear p2
                    try clear c3
                    try clear c4
                    try clear c9
                    try clear c11
                    try clear c11b0
                    try clear c12
                    try clear c12b0
                    try clear c13
                    try clear c13b0
                    try clear c14
                    try clear c14b0
                    try clear c15
                    try clear c15b0
                    try clear c16
                    try clear c18
                    try clear c18b0
                    try clear c18b1
                    try clear c18b2
                    try clear c19
                    try clear c19b0
                    try clear c19b1
                    try clear c19b2
                    try clear c20
                    try clear c21
                    try clear c21b0
                    try clear c21b1
                    try clear c22
                    try clear c22b0
                    try clear c22b1
                    try clear c23
                    try clear c24
                    try clear c26
                    try clear c26b0
                    try clear c26b1
                    try clear c27
                    try clear c27b0
                    try clear c27b1
                    try clear c28
                    try clear c28b0
                    try clear c28b1
                    try clear c29
                    try clear c32
                    try clear p2
                    obtain ⟨kq, x131_30, rfl, HA, HJ30, ⟨mc30, rfl⟩⟩ := hcut
                    cases kq with
                    | zero => exact absurd HA.out (by simp [bowerlaw15_HandBack.j3])
                    | succ kj30 =>
                      have H := HA.out
                      clear HA
                      simp only [bowerlaw15_HandBack.j3] at H
                      by_cases c34 : x131_30 = true
                      · subst c34
                        have H1 : (some false) = some r := by rw [if_pos rfl] at H; exact H
                        clear H
                        have H := H1
                        clear H1
                        obtain rfl := Option.some.inj H
                        go_wp2
                        go_ret
                        exact ⟨by first | rfl | (simp; done) | (simp [*]; done), by repeat (first | exact Drawn0.refl _ | apply Drawn0.step)⟩
                      · replace c34 := Bool.eq_false_iff.mpr c34
                        subst c34
                        have H1 : (if a6 < 0 then (some t108) else (if a6 > 63 then (some t108) else (if x17_9 = true then (if 0 ≤ (IntKind.u64.wrap (a6)) then ((hand_Unpack.f (Go.bits .xor .u64 t109 (shl .u64 1 (IntKind.u64.wrap (a6))))).bind fun bt120 => (if t108 = true then (if bt120.2.2.2 = true then (if bt120.1 = a0 then (if bt120.2.1 = a1 then (some (bt120.2.2.1 != a2)) else (some true)) else (some true)) else (some true)) else (some false))) else (none)) else (some t108)))) = some r := by rw [if_neg (show ¬ (false = true) by decide)] at H; exact H
                        clear H
                        have H := H1
                        clear H1
                        by_cases c35 : a6 < 0
                        · rw [if_pos c35] at H
                          have c35b0 : decide (a6 < 0) = true := decide_eq_true c35
                          clear c35
                          obtain rfl := Option.some.inj H
                          go_wp2
                          go_ret
                          exact ⟨by first | rfl | (simp; done) | (simp [*]; done), by repeat (first | exact Drawn0.refl _ | apply Drawn0.step)⟩
                        · rw [if_neg c35] at H
                          have c35b0 : decide (a6 < 0) = false := decide_eq_false c35
                          clear c35
                          by_cases c36 : a6 > 63
                          · rw [if_pos c36] at H
                            have c36b0 : decide (63 < a6) = true := decide_eq_true c36
                            clear c36
                            obtain rfl := Option.some.inj H
                            go_wp2
                            go_ret
                            exact ⟨by first | rfl | (simp; done) | (simp [*]; done), by repeat (first | exact Drawn0.refl _ | apply Drawn0.step)⟩
                          · rw [if_neg c36] at H
                            have c36b0 : decide (63 < a6) = false := decide_eq_false c36
                            clear c36
                            by_cases c37 : x17_9 = true
                            · subst c37
                              have H1 : (if 0 ≤ (IntKind.u64.wrap (a6)) then ((hand_Unpack.f (Go.bits .xor .u64 t109 (shl .u64 1 (IntKind.u64.wrap (a6))))).bind fun bt120 => (if t108 = true then (if bt120.2.2.2 = true then (if bt120.1 = a0 then (if bt120.2.1 = a1 then (some (bt120.2.2.1 != a2)) else (some true)) else (some true)) else (some true)) else (some false))) else (none)) = some r := by rw [if_pos rfl] at H; exact H
                              clear H
                              have H := H1
                              clear H1
                              obtain ⟨ji38, hji38⟩ : ∃ j_ : Int, (IntKind.u64.wrap (a6)) = j_ := ⟨_, rfl⟩
                              replace H : (if 0 ≤ (ji38) then ((hand_Unpack.f (Go.bits .xor .u64 t109 (shl .u64 1 (ji38)))).bind fun bt120 => (if t108 = true then (if bt120.2.2.2 = true then (if bt120.1 = a0 then (if bt120.2.1 = a1 then (some (bt120.2.2.1 != a2)) else (some true)) else (some true)) else (some true)) else (some false))) else (none)) = some r := by first | (rw [hji38] at H; exact H) | (simp only [hji38] at H ⊢; exact H)
                              by_cases c39 : 0 ≤ (ji38)
                              · rw [if_pos c39] at H
                                have c39b0 := eq_true c39
                                have c39b1 : decide (0 ≤ (ji38)) = true := decide_eq_true c39
                                clear c39
                                obtain ⟨ji40, hji40⟩ : ∃ j_ : Int, (shl .u64 1 (ji38)) = j_ := ⟨_, rfl⟩
                                replace H : ((hand_Unpack.f (Go.bits .xor .u64 t109 (ji40))).bind fun bt120 => (if t108 = true then (if bt120.2.2.2 = true then (if bt120.1 = a0 then (if bt120.2.1 = a1 then (some (bt120.2.2.1 != a2)) else (some true)) else (some true)) else (some true)) else (some false))) = some r := by first | (rw [hji40] at H; exact H) | (simp only [hji40] at H ⊢; exact H)
                                have hji40_ : (IntKind.u64.wrap (1 * 2 ^ min (ji38).toNat 64)) = ji40 := hji40
                                have hji40z : (ji38) ≤ 64 → (IntKind.u64.wrap (1 * 2 ^ (ji38).toNat)) = ji40 := shl_small hji40
                                have hji40u : (IntKind.u64.wrap (2 ^ min (ji38).toNat 64)) = ji40 := by have h_ := hji40_; rw [Int.one_mul] at h_; exact h_
                                have hji40v : (ji38) ≤ 64 → (IntKind.u64.wrap (2 ^ (ji38).toNat)) = ji40 := fun hle_ => by have h_ := hji40z hle_; rw [Int.one_mul] at h_; exact h_
                                replace H := Option.bind_eq_some_iff.mp H
                                obtain ⟨⟨t120, t121, t122, t123⟩, A410, H⟩ := H
                                replace H : (if t108 = true then (if t123 = true then (if t120 = a0 then (if t121 = a1 then (some (t122 != a2)) else (some true)) else (some true)) else (some true)) else (some false)) = some r := H
                                have A41 := Aside0.mk A410
                                clear A410
                                by_cases c42 : t108 = true
                                · subst c42
                                  have H1 : (if t123 = true then (if t120 = a0 then (if t121 = a1 then (some (t122 != a2)) else (some true)) else (some true)) else (some true)) = some r := by rw [if_pos rfl] at H; exact H
                                  clear H
                                  have H := H1
                                  clear H1
                                  by_cases c43 : t123 = true
                                  · subst c43
                                    have H1 : (if t120 = a0 then (if t121 = a1 then (some (t122 != a2)) else (some true)) else (some true)) = some r := by rw [if_pos rfl] at H; exact H
                                    clear H
                                    have H := H1
                                    clear H1
                                    by_cases c44 : t120 = a0
                                    · rw [if_pos c44] at H
                                      have c44b0 : (t120 == a0) = true := beq_iff_eq.mpr c44
                                      have c44b1 : (t120 != a0) = false := bne_eq_false_iff_eq.mpr c44
                                      clear c44
                                      by_cases c45 : t121 = a1
                                      · rw [if_pos c45] at H
                                        have c45b0 : (t121 == a1) = true := beq_iff_eq.mpr c45
                                        have c45b1 : (t121 != a1) = false := bne_eq_false_iff_eq.mpr c45
                                        clear c45
                                        obtain rfl := Option.some.inj H
                                        go_wp2_with (first | ((with_reducible refine gate_callee (f := 16) rfl ?_); refine goesL_ (some 149) rfl rfl Try.func16 (by kernel_rfl) rfl #[.int .u64 (Go.bits .xor .u64 t109 (ji40))] rfl (by (try simp only [List.map_toArray, List.map_cons, List.map_nil]); first | done | (simp only [hji40]; rfl) | rfl | (simp only [List.length_drop, List.length_take]; rfl)) ?_; (with_reducible refine (hand_Unpack.calls (Go.bits .xor .u64 t109 (ji40)) t120 t121 t122 true _ A41.out).mono ?_); rintro e w' ⟨rfl, ⟨nd, rfl⟩⟩; refine ⟨_, rfl, ?_⟩))
                                        go_ret
                                        exact ⟨by first | rfl | (simp; done) | (simp only [← hji38, ← hji40] <;> (first | rfl | simp)) | (simp [*]; done), by repeat (first | exact Drawn0.refl _ | apply Drawn0.step)⟩
                                      · rw [if_neg c45] at H
                                        have c45b0 : (t121 == a1) = false := beq_eq_false_iff_ne.mpr c45
                                        have c45b1 : (t121 != a1) = true := bne_iff_ne.mpr c45
                                        obtain rfl := Option.some.inj H
                                        go_wp2_with (first | ((with_reducible refine gate_callee (f := 16) rfl ?_); refine goesL_ (some 149) rfl rfl Try.func16 (by kernel_rfl) rfl #[.int .u64 (Go.bits .xor .u64 t109 (ji40))] rfl (by (try simp only [List.map_toArray, List.map_cons, List.map_nil]); first | done | (simp only [hji40]; rfl) | rfl | (simp only [List.length_drop, List.length_take]; rfl)) ?_; (with_reducible refine (hand_Unpack.calls (Go.bits .xor .u64 t109 (ji40)) t120 t121 t122 true _ A41.out).mono ?_); rintro e w' ⟨rfl, ⟨nd, rfl⟩⟩; refine ⟨_, rfl, ?_⟩))
                                        go_ret
                                        exact ⟨by first | rfl | (simp; done) | (simp only [← hji38, ← hji40] <;> (first | rfl | simp)) | (simp [*]; done), by repeat (first | exact Drawn0.refl _ | apply Drawn0.step)⟩
                                    · rw [if_neg c44] at H
                                      have c44b0 : (t120 == a0) = false := beq_eq_false_iff_ne.mpr c44
                                      have c44b1 : (t120 != a0) = true := bne_iff_ne.mpr c44
                                      obtain rfl := Option.some.inj H
                                      go_wp2_with (first | ((with_reducible refine gate_callee (f := 16) rfl ?_); refine goesL_ (some 149) rfl rfl Try.func16 (by kernel_rfl) rfl #[.int .u64 (Go.bits .xor .u64 t109 (ji40))] rfl (by (try simp only [List.map_toArray, List.map_cons, List.map_nil]); first | done | (simp only [hji40]; rfl) | rfl | (simp only [List.length_drop, List.length_take]; rfl)) ?_; (with_reducible refine (hand_Unpack.calls (Go.bits .xor .u64 t109 (ji40)) t120 t121 t122 true _ A41.out).mono ?_); rintro e w' ⟨rfl, ⟨nd, rfl⟩⟩; refine ⟨_, rfl, ?_⟩))
                                      go_ret
                                      exact ⟨by first | rfl | (simp; done) | (simp only [← hji38, ← hji40] <;> (first | rfl | simp)) | (simp [*]; done), by repeat (first | exact Drawn0.refl _ | apply Drawn0.step)⟩
                                  · replace c43 := Bool.eq_false_iff.mpr c43
                                    subst c43
                                    have H1 : (some true) = some r := by rw [if_neg (show ¬ (false = true) by decide)] at H; exact H
                                    clear H
                                    have H := H1
                                    clear H1
                                    obtain rfl := Option.some.inj H
                                    go_wp2_with (first | ((with_reducible refine gate_callee (f := 16) rfl ?_); refine goesL_ (some 149) rfl rfl Try.func16 (by kernel_rfl) rfl #[.int .u64 (Go.bits .xor .u64 t109 (ji40))] rfl (by (try simp only [List.map_toArray, List.map_cons, List.map_nil]); first | done | (simp only [hji40]; rfl) | rfl | (simp only [List.length_drop, List.length_take]; rfl)) ?_; (with_reducible refine (hand_Unpack.calls (Go.bits .xor .u64 t109 (ji40)) t120 t121 t122 false _ A41.out).mono ?_); rintro e w' ⟨rfl, ⟨nd, rfl⟩⟩; refine ⟨_, rfl, ?_⟩))
                                    go_ret
                                    exact ⟨by first | rfl | (simp; done) | (simp only [← hji38, ← hji40] <;> (first | rfl | simp)) | (simp [*]; done), by repeat (first | exact Drawn0.refl _ | apply Drawn0.step)⟩
                                · replace c42 := Bool.eq_false_iff.mpr c42
                                  subst c42
                                  have H1 : (some false) = some r := by rw [if_neg (show ¬ (false = true) by decide)] at H; exact H
                                  clear H
                                  have H := H1
                                  clear H1
                                  obtain rfl := Option.some.inj H
                                  go_wp2_with (first | ((with_reducible refine gate_callee (f := 16) rfl ?_); refine goesL_ (some 149) rfl rfl Try.func16 (by kernel_rfl) rfl #[.int .u64 (Go.bits .xor .u64 t109 (ji40))] rfl (by (try simp only [List.map_toArray, List.map_cons, List.map_nil]); first | done | (simp only [hji40]; rfl) | rfl | (simp only [List.length_drop, List.length_take]; rfl)) ?_; (with_reducible refine (hand_Unpack.calls (Go.bits .xor .u64 t109 (ji40)) t120 t121 t122 t123 _ A41.out).mono ?_); rintro e w' ⟨rfl, ⟨nd, rfl⟩⟩; refine ⟨_, rfl, ?_⟩))
                                  go_ret
                                  exact ⟨by first | rfl | (simp; done) | (simp only [← hji38, ← hji40] <;> (first | rfl | simp)) | (simp [*]; done), by repeat (first | exact Drawn0.refl _ | apply Drawn0.step)⟩
                              · rw [if_neg c39] at H
                                exact absurd H (by simp)
                            · replace c37 := Bool.eq_false_iff.mpr c37
                              subst c37
                              have H1 : (some t108) = some r := by rw [if_neg (show ¬ (false = true) by decide)] at H; exact H
                              clear H
                              have H := H1
                              clear H1
                              obtain rfl := Option.some.inj H
                              go_wp2
                              go_ret
                              exact ⟨by first | rfl | (simp; done) | (simp [*]; done), by repeat (first | exact Drawn0.refl _ | apply Drawn0.step)⟩

/-- THE ONE PURE STATEMENT of bowerlaw15_HandBack: yours. -/
def bowerlaw15_HandBack.Pure : Prop := ∀ (a0 : Int) (a1 : Int) (a2 : Int) (a3 : Int) (a4 : Int) (a5 : Int) (a6 : Int), (Lit.int .i64 a0).wf = true → (Lit.int .i64 a1).wf = true → (Lit.int .i64 a2).wf = true → (Lit.int .i64 a3).wf = true → (Lit.int .i64 a4).wf = true → (Lit.int .u64 a5).wf = true → (Lit.int .i64 a6).wf = true → ∃ k, bowerlaw15_HandBack.f k a0 a1 a2 a3 a4 a5 a6 = some true
theorem bowerlaw15_HandBack.walk (P : bowerlaw15_HandBack.Pure) (a0 : Int) (a1 : Int) (a2 : Int) (a3 : Int) (a4 : Int) (a5 : Int) (a6 : Int) (w : World) (w0 : (Lit.int .i64 a0).wf = true) (w1 : (Lit.int .i64 a1).wf = true) (w2 : (Lit.int .i64 a2).wf = true) (w3 : (Lit.int .i64 a3).wf = true) (w4 : (Lit.int .i64 a4).wf = true) (w5 : (Lit.int .u64 a5).wf = true) (w6 : (Lit.int .i64 a6).wf = true) :
    Calls Try.prog 4 #[.int .i64 a0, .int .i64 a1, .int .i64 a2, .int .i64 a3, .int .i64 a4, .int .u64 a5, .int .i64 a6] w fun e w' => e = .returned (.bool true) ∧ Below w.heap.size w w' := by
  obtain ⟨k, h⟩ := P a0 a1 a2 a3 a4 a5 a6 w0 w1 w2 w3 w4 w5 w6
  refine (bowerlaw15_HandBack.calls k a0 a1 a2 a3 a4 a5 a6 true w h).mono ?_
  rintro e w' ⟨rfl, hd⟩
  exact ⟨rfl, hd.below⟩

end Go.Proofs.Ytjdomnpfgdbckaa.PHandBack
