/- StNew, Law07, Law07b, Law07c, Law07d, LawKit, LawFv, StOpen, Tab, Cof, KeyF, SizeP, Ref01, Ref02, Size, FvOpen, BldP, BldP2, IteK, IteC, IteT, ReadB, IteI, IteI2, SizeP2, SizeP3, FullP, IteP, Oper, IteP2, RchP, SiP, Rs8, BxAny: texts of this work, one behind the other. -/
import Derived.Test.YtpeindhocndmnaaQr5
import Derived.WalkKit
import Derived.ProofKit
import Derived.OpenShut
import Derived.ShutString
import Derived.ChangeOld
import Derived.Below
import Derived.Carry
import Derived.SizedLaws
import Derived.KernelRfl
import Derived.Test.YtpeindhocndmnaaRows
namespace Go.Proofs.Ytpeindhocndmnaa
open Go Go.Bx
set_option linter.unusedSimpArgs false
set_option linter.unusedVariables false
set_option maxRecDepth 100000
set_option maxHeartbeats 4000000
attribute [local irreducible] X XO XE XF XD XW thenX inX retX kN CallsR
def ownN (a b : Nat) : Nat → Nat := fun k => if k = a then 1 else if k = b then 2 else 0
theorem ownN_1 {a b : Nat} : ownN a b a = 1 := if_pos rfl
theorem ownN_0 {a b k : Nat} (h1 : k ≠ a) (h2 : k ≠ b) : ownN a b k = 0 := by unfold ownN; rw [if_neg h1, if_neg h2]
theorem ownN_2 {a b k : Nat} (h : k ≠ a) : ownN a b k = 2 ↔ k = b := by
  unfold ownN; rw [if_neg h]
  by_cases e : k = b
  · rw [if_pos e]; simp [e]
  · rw [if_neg e]; simp [e]
theorem owns_N2 {a b : Nat} (h : a ≠ b) : owns (ownN a b) 2 = fun k => k = b := funext fun k => propext (by
  unfold owns
  by_cases e1 : k = a
  · subst e1
    rw [ownN_1]
    constructor
    · intro h; cases h
    · intro e; exact absurd e h
  · exact ownN_2 e1)
structure NewI (w0 w : World) (p pa : Nat) (most : Int) (k : Nat) (own : Nat → Nat) (sc : Array Value) (pu : Nat → Nat) : Prop where
  at_ : w.heap[p]? = some (.cells sc 120)
  size : sc.size = 20
  c0 : sc[0]? = some (.int .i64 most)
  c1 : sc[1]? = some (.pointer (some ⟨pa, 0, none⟩))
  c2 : sc[2]? = some (.slice none 0 0)
  c3 : sc[3]? = some (.slice none 0 0)
  cu : ∀ v : Nat, v < k → sc[4 + v]? = some (.pointer (some ⟨pu v, 0, none⟩))
  co : Value.agg (sc.extract 12 20) = aI plain
  op : own p = 1
  ar : ArI (owns own 2) w pa ⟨most, [], []⟩
  un : ∀ v, v < k → UqM (owns own (10 + v)) w (pu v) (fun _ => none) 0
  no : ∀ v, k ≤ v → ∀ j, own j ≠ 10 + v
  lt : ∀ j, own j ≠ 0 → w0.heap.size ≤ j ∧ j < w.heap.size
  ext : Ext w0 w
theorem NewI.keep {w0 w w' : World} {p pa : Nat} {most : Int} {k : Nat} {own : Nat → Nat} {sc : Array Value} {pu : Nat → Nat} (h : NewI w0 w p pa most k own sc pu) (hE : Ext w w') : NewI w0 w' p pa most k own sc pu :=
  ⟨hE.at h.at_, h.size, h.c0, h.c1, h.c2, h.c3, h.cu, h.co, h.op, h.ar.ext hE, fun v hv => (h.un v hv).ext hE, h.no, fun j hj => ⟨(h.lt j hj).1, Nat.lt_of_lt_of_le (h.lt j hj).2 hE.size⟩, h.ext.trans hE⟩
theorem NewI.next {w0 u u2 u3 : World} {p pa : Nat} {most : Int} {k : Nat} {own : Nat → Nat} {sc : Array Value} {pu : Nat → Nat} (h : NewI w0 u p pa most k own sc pu) (hk : k < 8) {q : Nat} (hU : UqM (fun j => u.heap.size ≤ j ∧ j < u2.heap.size) u2 q (fun _ => none) 0) (hE : Ext u u2) (hE3 : Ext u2 u3) :
    NewI w0 (upd u3 p (.cells (sc.setIfInBounds (4 + k) (.pointer (some ⟨q, 0, none⟩))) 120)) p pa most (k + 1) (ownUp own u u2 (10 + k)) (sc.setIfInBounds (4 + k) (.pointer (some ⟨q, 0, none⟩))) (fun v => if v = k then q else pu v) := by
  have hlt : ∀ j, own j ≠ 0 → j < u.heap.size := fun j hj => (h.lt j hj).2
  have hp := (hE.trans hE3).at h.at_
  have hpl := lt_of_heap hp
  have hs := h.size
  have hsz := hE.size
  have hsz3 := hE3.size
  have hop : ownUp own u u2 (10 + k) p = 1 := by rw [ownUp_old (hlt p (by rw [h.op]; decide))]; exact h.op
  have hne : ∀ j, ownUp own u u2 (10 + k) j ≠ 1 → (upd u3 p (.cells (sc.setIfInBounds (4 + k) (.pointer (some ⟨q, 0, none⟩))) 120)).heap[j]? = u3.heap[j]? := fun j hj => upd_other fun e => hj (by rw [← e]; exact hop)
  refine ⟨upd_same hpl, by rw [Array.size_setIfInBounds]; exact hs, by rw [Array.getElem?_setIfInBounds_ne (by omega)]; exact h.c0, by rw [Array.getElem?_setIfInBounds_ne (by omega)]; exact h.c1, by rw [Array.getElem?_setIfInBounds_ne (by omega)]; exact h.c2, by rw [Array.getElem?_setIfInBounds_ne (by omega)]; exact h.c3, fun v hv => ?_, ?_, hop, ?_, fun v hv => ?_, fun v hv j hj => ?_, fun j hj => ?_, ?_⟩
  · by_cases e : v = k
    · subst e; rw [Array.getElem?_setIfInBounds_self_of_lt (by omega)]; simp
    · rw [Array.getElem?_setIfInBounds_ne (by omega), h.cu v (by omega)]; simp [e]
  · rw [← h.co]
    congr 1
    apply Array.ext_getElem?
    intro j
    rw [Array.getElem?_extract, Array.getElem?_extract, Array.size_setIfInBounds, Array.getElem?_setIfInBounds_ne (by omega)]
  · rw [owns_up_other hlt (by decide) (by omega)]
    exact (h.ar.ext (hE.trans hE3)).keep (fun j hj => upd_other fun e => by unfold owns at hj; rw [← e, h.op] at hj; cases hj) (by rw [upd_size]; exact Nat.le_refl _)
  · by_cases e : v = k
    · subst e
      rw [owns_up_self]
      have h1 := (hU.ext hE3).wider (G := Grow (owns own (10 + v)) u u2) (fun j hj => .inr hj) (fun j hj => by
        rcases hj with hj | hj
        · exact absurd hj (h.no v (Nat.le_refl _) j)
        · omega)
      show UqM _ _ (if v = v then q else pu v) _ _
      rw [if_pos rfl]
      exact h1.keep (fun j hj => upd_other fun e => by
        rw [← e] at hj
        rcases hj with hj | hj
        · exact absurd hj (h.no v (Nat.le_refl _) p)
        · have := hlt p (by rw [h.op]; decide); omega) (by rw [upd_size]; exact Nat.le_refl _)
    · rw [owns_up_other hlt (by omega) (by omega)]
      show UqM _ _ (if v = k then q else pu v) _ _
      rw [if_neg e]
      exact ((h.un v (by omega)).ext (hE.trans hE3)).keep (fun j hj => upd_other fun e => by unfold owns at hj; rw [← e, h.op] at hj; omega) (by rw [upd_size]; exact Nat.le_refl _)
  · unfold ownUp at hj
    split at hj
    · omega
    · exact h.no v (by omega) j hj
  · rw [upd_size]
    have h0 := h.ext.size
    unfold ownUp at hj
    split at hj
    · rename_i hr; omega
    · have := h.lt j hj; omega
  · exact (h.ext.trans (hE.trans hE3)).upd (h.lt p (by rw [h.op]; decide)).1 _
theorem stNew_calls (most : Int) (h0' : 0 ≤ most) (h1' : most ≤ 20000) (w : World) :
    CallsR Try.prog 19 #[.int .i64 most] w fun r w' => ∃ own p, r = .pointer (some ⟨p, 0, none⟩) ∧ StI own w' p (Md.new most) [] ∧ (∀ k, own k ≠ 0 → w.heap.size ≤ k) ∧ Ext w w' := by
  have c1 := arNew_calls most h0' h1' w
  have hpl : w.heap.size + 1 ≠ w.heap.size := by omega
  have hown := (owns_N2 hpl).symm
  refine en1 Try.func19 Try.results19 mixed [(8, [2])] ?_
  intro e0 h0
  refine w_ fun d => ?_
  refine c1.mono ?_
  rintro _ w1 ⟨rfl, hRA, hs1, hE1⟩
  rw [hown] at hRA
  refine w_ fun d => ?_
  refine lo_ (fun _ e w' => ∃ (k : Nat) (own : Nat → Nat) (sc : Array Value) (pu : Nat → Nat), k ≤ 8 ∧ e 15 = .int .i64 k ∧ NewI w w' (w.heap.size + 1) w.heap.size most k own sc pu) (fun e _ => 8 - nat (e 15)) ?_ ?_
  · refine ⟨0, ownN (w.heap.size + 1) w.heap.size, _, fun _ => 0, by omega, eA rfl, hA rfl, rfl, rfl, rfl, rfl, rfl, fun v hv => by omega, rfl, ownN_1, hRA.ext ext_, fun v hv => by omega, fun v _ j hj => ?_, fun j hj => ?_, ext_⟩
    · by_cases e1 : j = w.heap.size + 1
      · rw [e1, ownN_1] at hj; omega
      · by_cases e2 : j = w.heap.size
        · rw [(ownN_2 e1).2 e2] at hj; omega
        · rw [ownN_0 e1 e2] at hj; omega
    · by_cases e1 : j = w.heap.size + 1
      · rw [alloc_size]; omega
      · by_cases e2 : j = w.heap.size
        · rw [alloc_size]; omega
        · exact absurd (ownN_0 e1 e2) hj
  rintro e u hf ⟨k, own, sc, pu, hk, h15, I⟩
  have hp := I.at_
  have hsz := I.size
  have hpl2 := lt_of_heap hp
  by_cases hlt : k < 8
  · refine w_ fun d => ?_
    refine s_draw (XD_ext ?_)
    refine de_ ?_
    refine xe2w fun v1 hF1 => ?_
    refine krA ?_
    refine ke ?_
    refine (uqNew_calls v1).mono ?_
    rintro _ v2 ⟨q, rfl, hU, hF2⟩
    have hF02 := hF1.trans hF2
    refine de_ ?_
    refine xe2w fun v3 hF3 => ?_
    have hp3 := (hF02.trans hF3).at hp
    have hpl3 := lt_of_heap hp3
    refine krA ?_
    refine ks ?_
    refine xn_ fun v4 hF4 hs4 => ?_
    have I2 := ((I.keep hF1).next hlt hU hF2 hF3).keep hF4
    clear hU hF2 hF02 hF3 hF4 hp3 hpl3 hs4 hF1 hp hpl2 I
    refine w_ fun d => ?_
    exact ⟨⟨k + 1, _, _, _, by omega, eA rfl, I2⟩, mA⟩
  · obtain rfl : k = 8 := by omega
    refine w_ fun d => ?_
    obtain ⟨oc, hc⟩ := ordC (ord := plain) rfl
    have hco : sc.extract 12 20 = oc := by have := I.co.trans hc.agg; cases this; rfl
    refine ⟨own, _, rfl, ⟨[], fun _ _ => none, fun _ => 0, ⟨w.heap.size, none, 0, none, 0, pu, sc, oc, ⟨I.at_, ⟨hsz, I.c0, I.c1, I.c2, I.c3, I.cu, hco⟩, hc, I.op, I.ar, Sl.nil _ _ _, (fun g h => by cases h), SlC.nil _ _, (fun g h => by cases h), I.un, fun k hk => (I.lt k hk).2⟩⟩, ⟨rfl, fun k hk => by simp [Md.new] at hk, fun v hv k n => ?_, fun v hv => rfl⟩⟩, fun k hk => (I.lt k hk).1, I.ext⟩
    constructor
    · intro h; cases h
    · rintro ⟨h, _⟩
      unfold Md.has Md.new Ar.has at h; simp at h
end Go.Proofs.Ytpeindhocndmnaa

namespace Go.Proofs.Ytpeindhocndmnaa
open Go Go.Bx
set_option linter.unusedSimpArgs false
set_option linter.unusedVariables false
set_option maxRecDepth 100000
set_option maxHeartbeats 4000000
attribute [local irreducible] X XO XE XF XD XW thenX inX retX kN CallsR
def pickN (s : Md) (n : Int) (raw : Bool) : Int := if raw then n else ((0 : Int) :: 1 :: s.all).getD (n % ((s.all.length : Int) + 2)).toNat 0
section
variable {own own1 own2 ownI ownM : Nat → Nat} {W w w' w1 w2 : World} {p ps pm : Nat} {s s' sM : Md} {n v x y lo hi : Int}
def PrI (W w : World) (ps pm : Nat) (s sM : Md) : Prop :=
  ∃ ownI ownM, StI ownI w ps s [] ∧ RsI ownM w pm sM ∧ (∀ k, ownI k ≠ 0 → ownM k = 0) ∧ (∀ k, ownI k ≠ 0 → W.heap.size ≤ k) ∧ (∀ k, ownM k ≠ 0 → W.heap.size ≤ k) ∧ Ext W w
end
end Go.Proofs.Ytpeindhocndmnaa

namespace Go.Proofs.Ytpeindhocndmnaa
open Go Go.Bx
set_option linter.unusedSimpArgs false
set_option linter.unusedVariables false
set_option maxRecDepth 100000
set_option maxHeartbeats 4000000
attribute [local irreducible] X XO XE XF XD XW thenX inX retX kN CallsR
section
variable {W w w' w1 w2 : World} {p ps pm : Nat} {s s' sM : Md} {n v x y lo hi : Int}
abbrev Dd07 := Int × Int × Int × Int × Bool
def encD (d : Dd07) : List Value := [.int .i64 d.1, .int .i64 d.2.1, .int .i64 d.2.2.1, .int .i64 d.2.2.2.1, .bool d.2.2.2.2]
def okI (n : Int) : Prop := -9223372036854775808 ≤ n ∧ n ≤ 9223372036854775807
end
end Go.Proofs.Ytpeindhocndmnaa

namespace Go.Proofs.Ytpeindhocndmnaa
open Go Go.Bx
set_option linter.unusedSimpArgs false
set_option linter.unusedVariables false
set_option maxRecDepth 100000
set_option maxHeartbeats 4000000
attribute [local irreducible] X XO XE XF XD XW thenX inX retX kN CallsR
section
variable {W w w' w1 w2 : World} {p ps pm : Nat} {s s' sM : Md} {n v x y lo hi : Int}
def OneI (W w : World) (ps : Nat) (s : Md) : Prop := ∃ own, StI own w ps s [] ∧ (∀ k, own k ≠ 0 → W.heap.size ≤ k) ∧ Ext W w
theorem OneI.world (h : OneI W w ps s) : Ext W w := by obtain ⟨_, _, _, h⟩ := h; exact h
theorem OneI.new {most : Int} (h0' : 0 ≤ most) (h1' : most ≤ 20000) (w : World) : CallsR Try.prog 19 #[.int .i64 most] w fun r w' => ∃ p, r = .pointer (some ⟨p, 0, none⟩) ∧ OneI w w' p (Md.new most) := by
  refine (stNew_calls most h0' h1' w).mono ?_
  rintro r w' ⟨own, p, rfl, h, ho, hE⟩
  exact ⟨p, rfl, own, h, ho, hE⟩
end
end Go.Proofs.Ytpeindhocndmnaa

namespace Go.Proofs.Ytpeindhocndmnaa
open Go Go.Bx
set_option linter.unusedSimpArgs false
set_option linter.unusedVariables false
set_option maxRecDepth 100000
set_option maxHeartbeats 4000000
attribute [local irreducible] X XO XE XF XD XW thenX inX retX kN CallsR
section
variable {W w w' w1 w2 : World} {p ps pm : Nat} {s s' sM : Md} {n v x y lo hi : Int}
def okD (d : Dd07) : Prop := okI d.2.1 ∧ okI d.2.2.1 ∧ okI d.2.2.2.1
end
end Go.Proofs.Ytpeindhocndmnaa

namespace Go.Bx
open Go Go.ChangeShapes Go.WideShapes Go.ChangeAt Go.RowKit
theorem Ext.below {W W' : World} (h : Ext W W') : Below W.heap.size W W' := ⟨h.os, h.tape, h.output, h.size, h.heap⟩
section
variable {H : Type} {enc : TypeId × Value → H} {P : Program}
theorem trodAll_stays (hl : laidOutB P = true) {W W' : World} (hE : Ext W W') : ∀ {ts : List TypeId} {vs : List Value} {ds : List (DataW H)} {ps : List MemPlace},
    (∀ t ∈ ts, P.readableRec t = true ∧ t < P.types.size) → DataW.TrodAll enc P W 0 (fun _ => true) true ts vs ds ps → (∀ x ∈ ps, x.block < W.heap.size) →
    DataW.TrodAll enc P W' 0 (fun b => decide (b < W.heap.size)) true ts vs ds ps
  | [], [], [], _, _, h, _ => h
  | t :: ts, v :: vs, d :: ds, _, ht, ⟨p, q, h, hs, e⟩, hlt =>
    ⟨p, q, Below.trod hl (ht t (by simp)).1 (ht t (by simp)).2 h hE.below (fun x hx => hlt x (by rw [e]; exact List.mem_append_left _ hx)),
      trodAll_stays hl hE (fun t hm => ht t (by simp [hm])) hs (fun x hx => hlt x (by rw [e]; exact List.mem_append_right _ hx)), e⟩
  | [], [], _ :: _, _, _, h, _ => h.elim
  | [], _ :: _, _, _, _, h, _ => by cases ‹List (DataW H)› <;> exact h.elim
  | _ :: _, [], _, _, _, h, _ => by cases ‹List (DataW H)› <;> exact h.elim
  | _ :: _, _ :: _, [], _, _, h, _ => h.elim
theorem law_post {f : Func} {s : ChangeSpec} {W W' : World} {args : Array Value} {ds gs : List (DataW H)} {before : List MemPlace} {tb : TypeId}
    (hl : laidOutB P = true) (hts : f.params.toList.all (fun t => P.readableRec t && decide (t < P.types.size)) = true) (hv : s.vars = []) (hrt : f.resultTypes = #[tb]) (hb : P.underlying tb = some .bool)
    (hW : DataW.Whole enc P f.params.toList s.vars false W args.toList ds gs before)
    (hfn : (s.fn H (ds ++ gs)).results = [.lit (.bool true)] ∧ (s.fn H (ds ++ gs)).args = ds ∧ (s.fn H (ds ++ gs)).vars = [])
    (hE : Ext W W') : s.post enc P f false true false false W args (.bool true) W' := by
  have hW' := hW
  obtain ⟨p, q, hA, hV, rfl, _, _⟩ := hW
  rw [hv] at hV
  obtain ⟨rfl, rfl⟩ := trodVars_none hV
  have hlt : ∀ x ∈ p, x.block < W.heap.size := fun x hx => hW'.lt x (by simpa using hx)
  refine ⟨ds, [], _, [], p, [], hW', ?_, ?_, ?_, hE.below.frame _, fun h => by cases h⟩
  · rw [hfn.1, hrt]
    exact trodAll_mk1 (shut_bool hb true)
  · rw [hfn.2.1]
    refine trodAll_stays hl hE (fun t ht => ?_) hA hlt
    have := List.all_eq_true.1 hts t ht
    simpa [Bool.and_eq_true] using this
  · rw [hfn.2.2, hv]
    exact rfl
theorem open_arr8 {r : Reach} {W w : World} {base b0 : Nat} {spare : Nat → Bool} {held : Bool} {t e : TypeId} {v : Value} {d : DataW H} {ps : List MemPlace} (ht : P.underlying t = some (.array 8 e)) (he : P.underlying e = some (.int .i64)) (hce : P.cellsOf e = 1) (hct : P.cellsOf t = 8)
    (hval : Value.okWide P W r b0 t v) (hd : DataW.Trod enc P w base spare held t v d ps) :
    ∃ l : List Int, l.length = 8 ∧ v = aI l ∧ ∀ x ∈ l, (Lit.int .i64 x).wf = true := by
  obtain ⟨cs, rfl, hsz, _⟩ : ∃ cs, v = .agg cs ∧ cs.size = P.cellsOf t ∧ Row.okWide P W r b0 t cs := by
    simpa [Value.okWide, ht] using hval
  rw [hct] at hsz
  obtain ⟨fuel, hf⟩ := hd
  obtain ⟨xs, m, rfl, _, _, hxl, hget⟩ := DataW.trod_array ht hf
  have hall : ∀ i, i < 8 → ∃ n : Int, cs[i]? = some (.int .i64 n) ∧ (Lit.int .i64 n).wf = true := by
    intro i hi
    have h1 := hget i hi
    obtain ⟨y, hy⟩ : ∃ y, xs[i]? = some y := ⟨xs[i], List.getElem?_eq_getElem (by omega)⟩
    rw [hy, hce] at h1
    obtain ⟨n, h2, _, hw⟩ := DataW.trod_int he h1
    refine ⟨n, ?_, hw⟩
    have h3 : cs.toList[i]? = some (.int .i64 n) := by
      have : ((cs.toList.drop (i * 1)).take 1)[0]? = some (.int .i64 n) := by
        show ((Value.cells (.agg cs)).toList.drop (i * 1) |>.take 1)[0]? = _
        rw [h2]; rfl
      simpa using this
    simpa using h3
  refine ⟨cs.toList.map (fun v => match v with | .int _ n => n | _ => 0), by simpa using hsz, ?_, ?_⟩
  · show Value.agg cs = .agg _
    congr 1
    apply Array.ext_getElem?
    intro i
    by_cases hi : i < 8
    · obtain ⟨n, hn, _⟩ := hall i hi
      have hn' : cs.toList[i]? = some (.int .i64 n) := by simpa using hn
      simp [hn, hn']
    · rw [Array.getElem?_eq_none (by omega), Array.getElem?_eq_none (by simp; omega)]
  · intro x hx
    obtain ⟨v, hv, rfl⟩ := List.mem_map.1 hx
    obtain ⟨i, hi⟩ := List.mem_iff_getElem?.1 hv
    have hi8 : i < 8 := by
      have := (List.getElem?_eq_some_iff.1 hi).1
      simpa [hsz] using this
    obtain ⟨n, hn, hw⟩ := hall i hi8
    have hn' : cs.toList[i]? = some (.int .i64 n) := by simpa using hn
    rw [hi] at hn'
    cases hn'
    exact hw
theorem open_ints {r : Reach} {W w : World} {base b0 : Nat} {spare : Nat → Bool} {held : Bool} {t e : TypeId} {N : Nat} {k : IntKind} {v : Value} {d : DataW H} {ps : List MemPlace} (ht : P.underlying t = some (.array N e)) (he : P.underlying e = some (.int k)) (hce : P.cellsOf e = 1) (hct : P.cellsOf t = N)
    (hval : Value.okWide P W r b0 t v) (hd : DataW.Trod enc P w base spare held t v d ps) :
    ∃ l : List Int, l.length = N ∧ v = .agg (l.map (Value.int k)).toArray ∧ ∀ x ∈ l, (Lit.int k x).wf = true := by
  obtain ⟨cs, rfl, hsz, _⟩ : ∃ cs, v = .agg cs ∧ cs.size = P.cellsOf t ∧ Row.okWide P W r b0 t cs := by
    simpa [Value.okWide, ht] using hval
  rw [hct] at hsz
  obtain ⟨fuel, hf⟩ := hd
  obtain ⟨xs, m, rfl, _, _, hxl, hget⟩ := DataW.trod_array ht hf
  have hall : ∀ i, i < N → ∃ n : Int, cs[i]? = some (.int k n) ∧ (Lit.int k n).wf = true := by
    intro i hi
    have h1 := hget i hi
    obtain ⟨y, hy⟩ : ∃ y, xs[i]? = some y := ⟨xs[i], List.getElem?_eq_getElem (by omega)⟩
    rw [hy, hce] at h1
    obtain ⟨n, h2, _, hw⟩ := DataW.trod_int he h1
    refine ⟨n, ?_, hw⟩
    have h3 : cs.toList[i]? = some (.int k n) := by
      have : ((cs.toList.drop (i * 1)).take 1)[0]? = some (.int k n) := by
        show ((Value.cells (.agg cs)).toList.drop (i * 1) |>.take 1)[0]? = _
        rw [h2]; rfl
      simpa using this
    simpa using h3
  refine ⟨cs.toList.map (fun v => match v with | .int _ n => n | _ => 0), by simpa using hsz, ?_, ?_⟩
  · show Value.agg cs = .agg _
    congr 1
    apply Array.ext_getElem?
    intro i
    by_cases hi : i < N
    · obtain ⟨n, hn, _⟩ := hall i hi
      have hn' : cs.toList[i]? = some (.int k n) := by simpa using hn
      simp [hn, hn']
    · rw [Array.getElem?_eq_none (by omega), Array.getElem?_eq_none (by simp; omega)]
  · intro x hx
    obtain ⟨v, hv, rfl⟩ := List.mem_map.1 hx
    obtain ⟨i, hi⟩ := List.mem_iff_getElem?.1 hv
    have hiN : i < N := by
      have := (List.getElem?_eq_some_iff.1 hi).1
      simpa [hsz] using this
    obtain ⟨n, hn, hw⟩ := hall i hiN
    have hn' : cs.toList[i]? = some (.int k n) := by simpa using hn
    rw [hi] at hn'
    cases hn'
    exact hw
theorem exists_list {α : Type} {p : Nat → α → Prop} : ∀ (n : Nat), (∀ i, i < n → ∃ y, p i y) → ∃ ys : List α, ys.length = n ∧ ∀ i y, ys[i]? = some y → p i y
  | 0, _ => ⟨[], rfl, fun i y h => by cases h⟩
  | n + 1, h => by
    obtain ⟨ys, hl, hy⟩ := exists_list n (fun i hi => h i (by omega))
    obtain ⟨y, hp⟩ := h n (by omega)
    refine ⟨ys ++ [y], by simp [hl], fun i z hz => ?_⟩
    rw [List.getElem?_append] at hz
    split at hz
    · exact hy i z hz
    · rename_i hge
      have hi : i = n := by
        have := (List.getElem?_eq_some_iff.1 hz).1
        simp at this; omega
      subst hi
      have : i - ys.length = 0 := by omega
      rw [this] at hz
      cases hz
      exact hp
theorem rd1_some {o : Option Obj} {i : Nat} {u : Value} (h : rd1 o i = some u) : ∃ c E fz, o = some (.cells c E fz) ∧ c[i]? = some u := by
  unfold rd1 at h
  split at h
  · exact ⟨_, _, _, rfl, h⟩
  · cases h
theorem trod_rows {α : Type} {W : World} {base : Nat} {spare : Nat → Bool} {held : Bool} {fuel t E s : Nat} {cs : List Value} {x : DataW H × List MemPlace} (ht : P.underlying t = some (.slice E)) (hs : P.cellsOf E = s) (hs0 : 0 < s) {f : α → List Value} {good : α → Prop}
    (dec : ∀ n cs x, DataW.trod enc P W base spare held n E cs = some x → ∃ y, cs = f y ∧ good y) (h : DataW.trod enc P W base spare held fuel t cs = some x) :
    ∃ (ys : List α) (a : Option Addr) (cap : Nat), cs = [.slice a ys.length cap] ∧ Inp W s a (ys.map f) ∧ (∀ y ∈ ys, good y) ∧ ys.length ≤ cap ∧ cap ≤ maxLen := by
  rcases DataW.trod_slice ht h with ⟨h0, _⟩ | ⟨a, len, cap, elems, rest, n, _, rfl, _, hb, hl, hm, hlen, hel, _, _⟩
  · exact ⟨[], none, 0, h0, .inl rfl, (fun y hy => by cases hy), by simp, by simp⟩
  · rw [hs] at hel
    have hrow : ∀ i, i < len → ∃ y : α, W.cells? base (a.add (i * s)) s = some (f y) ∧ good y := by
      intro i hi
      have h1 := hel i hi
      rw [List.getElem?_eq_getElem (show i < elems.length by omega)] at h1
      obtain ⟨ci, h2, h3⟩ := Option.bind_eq_some_iff.1 h1
      obtain ⟨y, rfl, hg⟩ := dec _ _ _ h3
      exact ⟨y, h2, hg⟩
    obtain ⟨ys, hyl, hy⟩ := exists_list len hrow
    refine ⟨ys, some a, cap, by rw [hyl], ?_, fun y hm => ?_, by omega, hm⟩
    · by_cases h0 : len = 0
      · subst h0
        left
        rw [List.length_eq_zero_iff.1 hyl]; rfl
      · right
        have hcell : ∀ i y, ys[i]? = some y → ∀ j u, (f y)[j]? = some u → W.cell? ((a.add (i * s)).add j) = some u := by
          intro i y hiy j u hj
          have h1 := (hy i y hiy).1
          unfold World.cells? at h1
          split at h1
          · have hlen2 : (f y).length = s := by simpa using mapM_some_length h1
            have hjs : j < s := by have := (List.getElem?_eq_some_iff.1 hj).1; omega
            have h2 := mapM_some_get h1 j j (by simp [hjs])
            rw [hj] at h2
            exact h2
          · cases h1
        obtain ⟨y0, hy0⟩ : ∃ y, ys[0]? = some y := ⟨ys[0]'(by omega), List.getElem?_eq_getElem (by omega)⟩
        have hlen0 : (f y0).length = s := by
          have h1 := (hy 0 y0 hy0).1
          unfold World.cells? at h1
          split at h1
          · simpa using mapM_some_length h1
          · cases h1
        obtain ⟨u0, hu0⟩ : ∃ u, (f y0)[0]? = some u := ⟨(f y0)[0]'(by omega), List.getElem?_eq_getElem (by omega)⟩
        have hc0 := hcell 0 y0 hy0 0 u0 hu0
        obtain ⟨b, off, spot⟩ := a
        have hspot : spot = none := by simpa [Addr.add] using World.cell?_spot hc0
        subst hspot
        simp only [add_none, Nat.add_assoc, cell_rd1] at hcell hc0
        obtain ⟨c, E', fz, hbk, _⟩ := rd1_some hc0
        refine ⟨b, off, c, E', fz, rfl, hbk, fun i x hx j u hj => ?_⟩
        rw [List.getElem?_map] at hx
        obtain ⟨y, hiy, rfl⟩ := Option.map_eq_some_iff.1 hx
        have := hcell i y hiy j u hj
        rw [hbk] at this
        rw [Nat.add_assoc]
        exact this
    · obtain ⟨i, hi⟩ := List.mem_iff_getElem?.1 hm
      exact (hy i y hi).2
theorem open_rows {α : Type} {r : Reach} {b0 : Nat} {W : World} {base : Nat} {spare : Nat → Bool} {held : Bool} {t E s : Nat} {v : Value} {d : DataW H} {ps : List MemPlace} (ht : P.underlying t = some (.slice E)) (hs : P.cellsOf E = s) (hs0 : 0 < s) {f : α → List Value} {good : α → Prop}
    (dec : ∀ n cs x, DataW.trod enc P W base spare held n E cs = some x → ∃ y, cs = f y ∧ good y) (hval : Value.okWide P W r b0 t v) (hd : DataW.Trod enc P W base spare held t v d ps) :
    ∃ (ys : List α) (a : Option Addr) (cap : Nat), v = .slice a ys.length cap ∧ Inp W s a (ys.map f) ∧ (∀ y ∈ ys, good y) ∧ ys.length ≤ cap ∧ cap ≤ maxLen := by
  obtain ⟨a, len, cap, rfl⟩ := okWide_slice ht hval
  obtain ⟨fuel, hf⟩ := hd
  obtain ⟨ys, a', cap', h1, h2⟩ := trod_rows ht hs hs0 dec hf
  have h3 : [Value.slice a len cap] = [.slice a' ys.length cap'] := h1
  cases h3
  exact ⟨ys, _, _, rfl, h2⟩
theorem dec_int {W : World} {base : Nat} {spare : Nat → Bool} {held : Bool} {E : Nat} {k : IntKind} (hE : P.underlying E = some (.int k)) : ∀ n cs x, DataW.trod enc P W base spare held n E cs = some x → ∃ y : Int, cs = [.int k y] ∧ (Lit.int k y).wf = true := by
  intro n cs x h
  obtain ⟨y, h1, _, h2⟩ := DataW.trod_int hE h
  exact ⟨y, h1, h2⟩
theorem sl_sized {w : World} {base : Nat} {spare : Nat → Bool} {held : Bool} {t E n c : Nat} {a : Option Addr} {d : DataW H} {ps : List MemPlace} {ts : List TypeId} {ds : List (DataW H)} (ht : P.underlying t = some (.slice E)) (hb : 0 < P.bytesOf E)
    (hsz : (DataW.weightsEach P ts ds).all (· ≤ reachBytes) = true) (j : Nat) (hj : ts[j]? = some t) (hdj : ds[j]? = some d) (hd : DataW.Trod enc P w base spare held t (.slice a n c) d ps) : n ≤ 140737488351232 := by
  obtain ⟨fuel, hf⟩ := hd
  rcases DataW.trod_slice ht hf with ⟨h0, _⟩ | ⟨a', len, cap, elems, rest, m, _, h0, h1, _, _, _, hl, _⟩
  · have : [Value.slice a n c] = [.slice none 0 0] := h0
    cases this; exact Nat.zero_le _
  · have : [Value.slice a n c] = [.slice (some a') len cap] := h0
    cases this
    cases h1
    have := sized_slice hsz hj hdj ht
    rw [List.length_map, List.length_map, hl] at this
    have h2 : n * 1 ≤ (n + rest.length) * P.bytesOf E := Nat.mul_le_mul (Nat.le_add_right _ _) hb
    have h3 : reachBytes = 140737488351232 := by decide
    omega
end
end Go.Bx

namespace Go.Bx
open Go Go.ChangeShapes Go.WideShapes Go.ChangeAt Go.RowKit
section
variable {H : Type} {enc : TypeId × Value → H} {P : Program}
theorem wf_u64 {x : Int} (h : (Lit.int .u64 x).wf = true) : 0 ≤ x ∧ x < 18446744073709551616 := by
  simp [Lit.wf] at h
  have h1 : IntKind.u64.min = 0 := by decide
  have h2 : IntKind.u64.max = 18446744073709551615 := by decide +kernel
  omega
theorem open_func {r : Reach} {W w : World} {base b0 : Nat} {spare : Nat → Bool} {held : Bool} {t e : TypeId} {v : Value} {d : DataW H} {ps : List MemPlace} (ht : P.underlying t = some (.array 4 e)) (he : P.underlying e = some (.int .u64)) (hce : P.cellsOf e = 1) (hct : P.cellsOf t = 4)
    (hval : Value.okWide P W r b0 t v) (hd : DataW.Trod enc P w base spare held t v d ps) : ∃ f : Fun8, v = fv f := by
  obtain ⟨l, hl, rfl, hw⟩ := open_ints ht he hce hct hval hd
  obtain ⟨a, b, c, d, rfl⟩ := list4 hl
  have ha := wf_u64 (hw a (by simp))
  have hb := wf_u64 (hw b (by simp))
  have hc := wf_u64 (hw c (by simp))
  have hd := wf_u64 (hw d (by simp))
  refine ⟨join fun k => BitVec.ofNat 64 (([a, b, c, d].getD k 0).toNat), ?_⟩
  rw [← w4_join]
  simp only [List.map_cons, List.map_nil, isU ha.1 ha.2, isU hb.1 hb.2, isU hc.1 hc.2, isU hd.1 hd.2]
  rfl
end
end Go.Bx

namespace Go.Proofs.Ytpeindhocndmnaa
open Go Go.Bx Go.ChangeShapes Go.WideShapes Go.ChangeAt Go.RowKit
set_option linter.unusedVariables false
set_option maxRecDepth 100000
theorem own : ownKnob Try.prog.godebug = none := by kernel_rfl
theorem laidOut : laidOutB Try.prog = true := by kernel_rfl
theorem wf_i64 {x : Int} (h : (Lit.int .i64 x).wf = true) : okI x := by
  simp [Lit.wf] at h
  have h1 : IntKind.i64.min = -9223372036854775808 := by decide +kernel
  have h2 : IntKind.i64.max = 9223372036854775807 := by decide +kernel
  unfold okI; omega
end Go.Proofs.Ytpeindhocndmnaa

namespace Go.Proofs.Ytpeindhocndmnaa
open Go Go.Bx
set_option linter.unusedSimpArgs false
set_option linter.unusedVariables false
set_option maxRecDepth 100000
set_option maxHeartbeats 4000000
attribute [local irreducible] X XO XE XF XD XW thenX inX retX kN CallsR
theorem not_calls (f : Fun8) (w : World) : CallsR Try.prog 139 #[fv f] w fun r w' => r = fv (notF f) ∧ Ext w w' := by
  refine en1 Try.func139 Try.results139 mixed [] ?_
  intro e0 h0
  refine w_ fun d => ?_
  refine un_ 5 ?_
  refine w_ fun d => ?_
  exact ⟨fv_of4 (word_notF (by decide)) (word_notF (by decide)) (word_notF (by decide)) (word_notF (by decide)), ext_⟩
theorem ite_calls (f g h : Fun8) (w : World) : CallsR Try.prog 142 #[fv f, fv g, fv h] w fun r w' => r = fv (iteF f g h) ∧ Ext w w' := by
  refine en3 Try.func142 Try.results142 mixed [] ?_
  intro e0 h0 h1 h2
  refine w_ fun d => ?_
  refine un_ 5 ?_
  refine w_ fun d => ?_
  exact ⟨fv_of4 (word_iteF (by decide)) (word_iteF (by decide)) (word_iteF (by decide)) (word_iteF (by decide)), ext_⟩
theorem const_calls (b : Bool) (w : World) : CallsR Try.prog 99 #[.bool b] w fun r w' => r = fv (constF b) ∧ Ext w w' := by
  obtain ⟨Z, hZ⟩ : ∃ Z, constF false = Z := ⟨_, rfl⟩
  have z := zero_fv
  rw [hZ] at z
  refine en1 Try.func99 Try.results99 mixed [] ?_
  intro e0 h0
  cases b
  · refine w_ fun d => ?_
    exact ⟨by rw [hZ], ext_⟩
  · refine w_ fun d => ?_
    refine callQ (not_calls Z _) fun w1 hE hs => ?_
    refine w_ fun d => ?_
    exact ⟨by rw [← hZ, notF_const], ext_⟩
theorem low_get : ∀ v : Nat, v < 6 → (#[.int .u64 12297829382473034410, .int .u64 14757395258967641292, .int .u64 17361641481138401520, .int .u64 18374966859414961920, .int .u64 18446462603027742720, .int .u64 18446744069414584320] : Array Value)[v]? = some (vU (lowW v)) := by
  intro v hv
  match v, hv with
  | 0, _ => rfl
  | 1, _ => rfl
  | 2, _ => rfl
  | 3, _ => rfl
  | 4, _ => rfl
  | 5, _ => rfl
theorem low_calls (v : Nat) (hv : v < 6) (w : World) : CallsR Try.prog 160 #[.int .i64 v] w fun r w' => r = vU (lowW v) ∧ Ext w w' := by
  have hg := low_get v hv
  refine en1 Try.func160 Try.results160 mixed [] ?_
  intro e0 h0
  refine w_ fun d => ?_
  exact ⟨rfl, Ext.refl w⟩
theorem var_calls (v : Int) (w : World) : CallsR Try.prog 143 #[.int .i64 v] w fun r w' => r = fv (varF v) ∧ Ext w w' := by
  refine en1 Try.func143 Try.results143 mixed [] ?_
  intro e0 h0
  by_cases hv : 0 ≤ v ∧ v < 6
  · obtain ⟨n, rfl⟩ := Int.eq_ofNat_of_zero_le hv.1
    have hn : n < 6 := by omega
    have e : ∀ k, lowW n = varW (n : Int) k := fun k => by rw [varW, if_pos hv]; rfl
    refine w_ fun d => ?_
    refine un_ 5 ?_
    refine w_ fun d => ?_
    refine callQ (low_calls n hn _) fun w1 hE hs => ?_
    refine w_ fun d => ?_
    refine callQ (low_calls n hn _) fun w2 hE hs => ?_
    refine w_ fun d => ?_
    refine callQ (low_calls n hn _) fun w3 hE hs => ?_
    refine w_ fun d => ?_
    refine callQ (low_calls n hn _) fun w4 hE hs => ?_
    refine w_ fun d => ?_
    exact ⟨fv_of4 ((e 0).trans (word_varF (by decide))) ((e 1).trans (word_varF (by decide))) ((e 2).trans (word_varF (by decide))) ((e 3).trans (word_varF (by decide))), ext_⟩
  · by_cases h67 : v = 6 ∨ v = 7
    · have f4 : ∀ a b c d : Value, a = vU (varW v 0) → b = vU (varW v 1) → c = vU (varW v 2) → d = vU (varW v 3) → Value.agg #[a, b, c, d] = fv (varF v) := by
        rintro _ _ _ _ rfl rfl rfl rfl
        exact fv_of4 (word_varF (by decide)) (word_varF (by decide)) (word_varF (by decide)) (word_varF (by decide))
      rcases h67 with rfl | rfl
      · refine w_ fun d => ?_
        refine un_ 5 ?_
        refine w_ fun d => ?_
        exact ⟨rfl, ext_⟩
      · refine w_ fun d => ?_
        refine un_ 5 ?_
        refine w_ fun d => ?_
        exact ⟨rfl, ext_⟩
    · have h6 : v ≠ 6 := fun h => h67 (.inl h)
      have h7 : v ≠ 7 := fun h => h67 (.inr h)
      have ho : varF v = constF false := varF_out (by omega)
      by_cases h0' : 0 ≤ v
      · have h1' : ¬ v < 6 := by omega
        refine w_ fun d => ?_
        refine un_ 5 ?_
        refine w_ fun d => ?_
        exact ⟨by rw [ho]; first | done | exact zero_fv, ext_⟩
      · refine w_ fun d => ?_
        refine un_ 5 ?_
        refine w_ fun d => ?_
        exact ⟨by rw [ho]; first | done | exact zero_fv, ext_⟩
end Go.Proofs.Ytpeindhocndmnaa

namespace Go.Proofs.Ytpeindhocndmnaa
open Go Go.Bx
set_option linter.unusedSimpArgs false
set_option linter.unusedVariables false
set_option maxRecDepth 100000
set_option maxHeartbeats 4000000
attribute [local irreducible] X XO XE XF XD XW thenX inX retX kN CallsR
theorem step_all : ∀ v : Nat, v < 8 → IntKind.i64.wrap (1 * 2 ^ min v IntKind.i64.bits) = ((2 ^ v : Nat) : Int) := by decide +kernel
theorem agg_list (f : Fun8) : fv f = .agg (([(word f 0).toNat, (word f 1).toNat, (word f 2).toNat, (word f 3).toNat].map fun n : Nat => (n : Int)).map (Value.int .u64)).toArray := rfl
theorem words_eq (f g : Fun8) : (([(word f 0).toNat, (word f 1).toNat, (word f 2).toNat, (word f 3).toNat].map fun n : Nat => (n : Int)) = ([(word g 0).toNat, (word g 1).toNat, (word g 2).toNat, (word g 3).toNat].map fun n : Nat => (n : Int))) ↔ f = g := by
  constructor
  · intro h
    simp only [List.map_cons, List.map_nil, List.cons.injEq, and_true] at h
    obtain ⟨h0, h1, h2, h3⟩ := h
    refine fn_words fun k hk => ?_
    match k, hk with
    | 0, _ => exact BitVec.eq_of_toNat_eq (by omega)
    | 1, _ => exact BitVec.eq_of_toNat_eq (by omega)
    | 2, _ => exact BitVec.eq_of_toNat_eq (by omega)
    | 3, _ => exact BitVec.eq_of_toNat_eq (by omega)
  · rintro rfl; rfl
theorem fun_eql {x y : Operand} {f g : Fun8} {w : World} : binR Try.prog .eql 54 x y (fv f) (fv g) w = .ok (.bool (decide (f = g))) w := by
  rw [agg_list, agg_list, binR_eqlA (by kernel_rfl) (equal_ints T54 T52 rfl rfl)]
  rw [decide_eq_decide.2 (words_eq f g)]
theorem fun_neq {x y : Operand} {f g : Fun8} {w : World} : binR Try.prog .neq 54 x y (fv f) (fv g) w = .ok (.bool (!decide (f = g))) w := by
  rw [agg_list, agg_list, binR_neqA (by kernel_rfl) (equal_ints T54 T52 rfl rfl)]
  rw [decide_eq_decide.2 (words_eq f g)]
attribute [push_cast] fun_eql fun_neq
theorem cof_calls (f : Fun8) (v : Int) (b : Bool) (w : World) : CallsR Try.prog 141 #[fv f, .int .i64 v, .bool b] w fun r w' => r = fv (cofF f v b) ∧ Ext w w' := by
  refine en3 Try.func141 Try.results141 mixed [(1015, [1])] ?_
  intro e0 h0 h1 h2
  by_cases hv : ¬ (0 ≤ v ∧ v < 8)
  · have ho := cofF_out (f := f) (b := b) hv
    by_cases h0v : v < 0
    · refine w_ fun d => ?_
      exact ⟨by rw [ho], ext_⟩
    · have : 8 ≤ v := by omega
      refine w_ fun d => ?_
      exact ⟨by rw [ho], ext_⟩
  obtain ⟨h0v, h8v⟩ := Classical.not_not.1 hv
  clear hv
  obtain ⟨n, rfl⟩ := Int.eq_ofNat_of_zero_le h0v
  have n8 : n < 8 := by omega
  by_cases hn6 : n < 6
  · have hst := step_all n n8
    have hV : ∀ k, k < 4 → word (varF n) k = lowW n := fun k hk => by rw [← word_varF hk, varW, if_pos (by omega)]; rfl
    have hvar := var_calls (n : Int)
    generalize varF (n : Int) = V at hV hvar
    obtain ⟨V0, V1, V2, V3⟩ := (⟨hV 0 (by decide), hV 1 (by decide), hV 2 (by decide), hV 3 (by decide)⟩ : _ ∧ _ ∧ _ ∧ _)
    have h64 : 2 ^ n ≤ 64 := (by decide : ∀ n : Nat, n < 6 → 2 ^ n ≤ 64) n hn6
    have wt : ∀ k, k < 4 → _ := fun k hk => word_cof_t (f := f) hn6 hk
    have wf : ∀ k, k < 4 → _ := fun k hk => word_cof_f (f := f) hn6 hk
    obtain ⟨S, ⟨hS⟩⟩ : ∃ S : Nat, Box (2 ^ n = S) := ⟨_, ⟨rfl⟩⟩
    rw [hS] at hst h64
    simp only [hS] at wt wf
    have c1 : Sure Try.prog 143 #[.int .i64 n] (fv V) := hvar
    refine w_ fun d => ?_
    refine s_wide (xw_ ?_)
    refine xf0A ?_
    refine xf3qA ?_
    refine xf0A ?_
    refine xf0A ?_
    refine xf2A fun w2 hE2 hw2 => ?_
    have hs2 := hE2.size
    simp only [alloc_size] at hs2
    refine krA ?_
    refine kv ?_
    refine ⟨ext_, ?_⟩
    refine xf2A fun w3 hE3 hw3 => ?_
    have hs3 := hw3.size
    simp only [alloc_size] at hs3
    refine krA ?_
    refine ks ?_
    refine ⟨ext_, ?_⟩
    refine xf0A ?_
    refine xf_nil fun w4 hw4 => ?_
    have hs4 := hw4.size
    simp only [upd_size] at hs4
    refine w_ fun d => ?_
    refine un_ 5 ?_
    cases b
    · refine w_ fun d => ?_
      exact ⟨rfl, ext_⟩
    · refine w_ fun d => ?_
      exact ⟨rfl, ext_⟩
  · obtain ⟨m, rfl⟩ : ∃ m, n = m + 6 := ⟨n - 6, by omega⟩
    have hw : ∀ k, k < 4 → word f (setB k m b) = word (cofF f (m + 6 : Nat) b) k := fun k hk => word_cof_h (by omega) hk
    have e0 : bits .andNot .i64 0 1 = 0 ∧ bits .andNot .i64 1 1 = 0 ∧ bits .andNot .i64 2 1 = 2 ∧ bits .andNot .i64 3 1 = 2 ∧ bits .andNot .i64 0 2 = 0 ∧ bits .andNot .i64 1 2 = 1 ∧ bits .andNot .i64 2 2 = 0 ∧ bits .andNot .i64 3 2 = 1 := by decide +kernel
    have e1 : bits .or .i64 0 1 = 1 ∧ bits .or .i64 1 1 = 1 ∧ bits .or .i64 2 1 = 3 ∧ bits .or .i64 3 1 = 3 ∧ bits .or .i64 0 2 = 2 ∧ bits .or .i64 1 2 = 3 ∧ bits .or .i64 2 2 = 2 ∧ bits .or .i64 3 2 = 3 := by decide +kernel
    have e2 : IntKind.i64.wrap (1 * 2 ^ min 0 IntKind.i64.bits) = 1 ∧ IntKind.i64.wrap (1 * 2 ^ min 1 IntKind.i64.bits) = 2 := by decide +kernel
    have hm : m = 0 ∨ m = 1 := by omega
    rcases hm with rfl | rfl <;> cases b
    · refine w_ fun d => ?_
      refine un_ 5 ?_
      refine w_ fun d => ?_
      exact ⟨fv_of4 (hw 0 (by decide)) (hw 1 (by decide)) (hw 2 (by decide)) (hw 3 (by decide)), ext_⟩
    · refine w_ fun d => ?_
      refine un_ 5 ?_
      refine w_ fun d => ?_
      exact ⟨fv_of4 (hw 0 (by decide)) (hw 1 (by decide)) (hw 2 (by decide)) (hw 3 (by decide)), ext_⟩
    · refine w_ fun d => ?_
      refine un_ 5 ?_
      refine w_ fun d => ?_
      exact ⟨fv_of4 (hw 0 (by decide)) (hw 1 (by decide)) (hw 2 (by decide)) (hw 3 (by decide)), ext_⟩
    · refine w_ fun d => ?_
      refine un_ 5 ?_
      refine w_ fun d => ?_
      exact ⟨fv_of4 (hw 0 (by decide)) (hw 1 (by decide)) (hw 2 (by decide)) (hw 3 (by decide)), ext_⟩
theorem depends_calls (f : Fun8) (v : Int) (w : World) : CallsR Try.prog 140 #[fv f, .int .i64 v] w fun r w' => r = .bool (depF f v) ∧ Ext w w' := by
  have c1 : Sure Try.prog 141 #[fv f, .int .i64 v, .bool false] _ := cof_calls f v false
  have c2 : Sure Try.prog 141 #[fv f, .int .i64 v, .bool true] _ := cof_calls f v true
  refine en2 Try.func140 Try.results140 mixed [] ?_
  intro e0 h0 h1
  refine w_ fun d => ?_
  intro w1 hE hs
  refine w_ fun d => ?_
  exact ⟨by rw [depF_def], ext_⟩
end Go.Proofs.Ytpeindhocndmnaa

namespace Go.Proofs.Ytpeindhocndmnaa
open Go Go.Bx
set_option linter.unusedSimpArgs false
set_option linter.unusedVariables false
set_option maxRecDepth 100000
set_option maxHeartbeats 4000000
attribute [local irreducible] X XO XE XF XD XW thenX inX retX kN CallsR
theorem find_of_eq {κ : Type} [DecidableEq κ] {P : Program} {kt : TypeId} {kf : κ → Value} {ok : κ → Prop} (hwide : (match P.underlying kt with | some (.array _ _) | some (.struct _) => true | _ => false) = true)
    (heq : ∀ a b w, ok a → ok b → (Op.equal kt (kf a) (kf b)).run P w = .ok (decide (a = b)) w) (k : κ) (es : List (Ent κ)) (w : World) (hk : ok k) (hes : ∀ e ∈ es, ok e.1) :
    (Instr.findKey kt (kf k) (es.map (mEnt kf))).run P w = .ok (mfind es k) w := by
  rw [run_findKey_eq w hwide]
  have gen : ∀ (es : List (Ent κ)) (i : Nat), (∀ e ∈ es, ok e.1) → (Instr.findAsking kt (kf k) (es.map (mEnt kf)) i).run P w = .ok (mfindFrom k es i) w := by
    intro es
    induction es with
    | nil => intro i _; rfl
    | cons e es ih =>
      intro i he
      have h1 := heq k e.1 w hk (he e (by simp))
      simp only [List.map_cons, Instr.findAsking, mEnt, Sem.run_bind, h1, Result.andThen_ok, mfindFrom]
      by_cases hke : e.1 = k
      · subst hke; simp [pure, Sem.run]
      · have : decide (k = e.1) = false := decide_eq_false fun h => hke h.symm
        rw [this, if_neg hke]
        simp only [Bool.false_eq_true, if_false]
        exact ih (i + 1) fun x hx => he x (by simp [hx])
  exact gen es 0 hes
theorem fun_equal {f g : Fun8} {w : World} : (Op.equal 54 (fv f) (fv g)).run Try.prog w = .ok (decide (f = g)) w := by
  rw [agg_list, agg_list, equal_ints T54 T52 rfl rfl, decide_eq_decide.2 (words_eq f g)]
theorem fun_keys : KeyOK Try.prog 54 fv fun _ => True where
  check := fun e k w _ => by kernel_rfl
  find := find_of_eq (by kernel_rfl) fun a b w _ _ => fun_equal
  stay := fun k w _ => by
    have : Instr.sameBits 10000 (fv k) (fv k) = true := by
      show Instr.sameBits (9999 + 1) (fv k) (fv k) = true
      simp [fv, w4, Instr.sameBits, vU]
    simp [Instr.keyThatStays, this, pure, Sem.run]
section
variable {w : World} {b clock : Nat} {es : List (Ent Fun8)} {f : Fun8} {n : Int} {u v : Value}
theorem luF2 (h : w.heap[b]? = some (mObj fv es clock)) : luO Try.prog 137 b (fv f) true w (some (mObj fv es clock)) h = .ok (.tuple #[(mget es f).getD (.int .i64 0), .bool (mget es f).isSome]) w := lookup_at h T137 T3 fun_keys trivial (fun _ _ => trivial) true
theorem muF (h : w.heap[b]? = some (mObj fv es clock)) : muO Try.prog 137 b (fv f) v w (some (mObj fv es clock)) h = .ok () (upd w b (mObj fv (mput es f v clock) (mclock es f clock))) := update_at h T137 fun_keys trivial (fun _ _ => trivial) v
attribute [push_cast] luF2 muF
end
end Go.Proofs.Ytpeindhocndmnaa

namespace Go.Bx
open Go
set_option linter.unusedSimpArgs false
set_option linter.unusedVariables false
def topF (ord : List Int) (f : Fun8) : Int := (ord.find? (depF f)).getD (-1)
def kids (ord : List Int) (f : Fun8) : List Fun8 := if 0 ≤ topF ord f then [cofF f (topF ord f) false, cofF f (topF ord f) true] else []
inductive Rch (ord : List Int) (l : List Fun8) : Fun8 → Prop
  | base {f} : f ∈ l → Rch ord l f
  | step {g f} : Rch ord l g → f ∈ kids ord g → Rch ord l f
structure IsNodes (ord : List Int) (l ns : List Fun8) : Prop where
  nodup : ns.Nodup
  mem : ∀ f, f ∈ ns ↔ Rch ord l f ∧ supF f ≠ 0
theorem sub_len {α : Type} [DecidableEq α] : ∀ {l m : List α}, l.Nodup → (∀ x ∈ l, x ∈ m) → l.length ≤ m.length
  | [], m, _, _ => by simp
  | x :: l, m, hn, h => by
    have hx := h x (by simp)
    have hn' := List.nodup_cons.1 hn
    have := sub_len (m := m.erase x) hn'.2 fun y hy => (List.mem_erase_of_ne (by intro e; subst e; exact hn'.1 hy)).2 (h y (by simp [hy]))
    rw [List.length_erase_of_mem hx] at this
    have := List.length_pos_of_mem hx
    simp only [List.length_cons]; omega
theorem IsNodes.len {ord : List Int} {l k ns ms : List Fun8} (h : IsNodes ord l ns) (h' : IsNodes ord k ms) (hr : ∀ f, Rch ord l f ↔ Rch ord k f) : ns.length = ms.length :=
  Nat.le_antisymm (sub_len h.nodup fun f hf => (h'.mem f).2 (by rw [← hr]; exact (h.mem f).1 hf)) (sub_len h'.nodup fun f hf => (h.mem f).2 (by rw [hr]; exact (h'.mem f).1 hf))
open Classical in
noncomputable def sizeF (ord : List Int) (l : List Fun8) : Nat := if h : ∃ ns, IsNodes ord l ns then (Classical.choose h).length else 0
theorem IsNodes.size {ord : List Int} {l ns : List Fun8} (h : IsNodes ord l ns) : ns.length = sizeF ord l := by
  have hh : ∃ ns, IsNodes ord l ns := ⟨ns, h⟩
  unfold sizeF
  rw [dif_pos hh]
  exact h.len (Classical.choose_spec hh) fun f => Iff.rfl
theorem cnt_mono {p q : Nat → Bool} : ∀ {n : Nat}, (∀ i, i < n → p i = true → q i = true) → cnt p n ≤ cnt q n
  | 0, _ => Nat.le_refl _
  | n + 1, h => by
    have := cnt_mono (n := n) fun i hi => h i (by omega)
    have h2 := h n (by omega)
    simp only [cnt]
    cases hp : p n <;> cases hq : q n <;> simp_all <;> omega
theorem cnt_lt {p q : Nat → Bool} : ∀ {n : Nat}, (∀ i, i < n → p i = true → q i = true) → (∃ j, j < n ∧ p j = false ∧ q j = true) → cnt p n < cnt q n
  | 0, _, ⟨j, h, _⟩ => by omega
  | n + 1, h, ⟨j, hj, h1, h2⟩ => by
    have h0 := cnt_mono (n := n) fun i hi => h i (by omega)
    simp only [cnt]
    by_cases e : j = n
    · subst e; rw [h1, h2]; simp; omega
    · have := cnt_lt (n := n) (fun i hi => h i (by omega)) ⟨j, by omega, h1, h2⟩
      have h3 := h n (by omega)
      cases hp : p n <;> cases hq : q n <;> simp_all <;> omega
def nv (f : Fun8) : Nat := cnt (fun v => depF f v) 8
theorem nv_le {f : Fun8} : nv f ≤ 8 := cnt_le _ 8
theorem dep_range {f : Fun8} {v : Int} (h : depF f v = true) : 0 ≤ v ∧ v < 8 := by
  by_cases h' : 0 ≤ v ∧ v < 8
  · exact h'
  · rw [depF_out h'] at h; cases h
theorem dep_of_cof {f : Fun8} {v u : Int} {b : Bool} (h : depF (cofF f v b) u = true) : depF f u = true := by
  by_cases e : v = u
  · subst e; rw [dep_cof] at h; cases h
  · rw [depF_def] at h ⊢
    by_cases hc : cofF f u false = cofF f u true
    · rw [cof_comm e, cof_comm e, hc] at h; simp at h
    · simp [hc]
theorem nv_cof {f : Fun8} {v : Int} {b : Bool} (h : depF f v = true) : nv (cofF f v b) < nv f := by
  obtain ⟨n, rfl, hn⟩ := nat8 (dep_range h)
  exact cnt_lt (fun i _ hi => dep_of_cof hi) ⟨n, hn, dep_cof, h⟩
theorem topF_dep {ord : List Int} {f : Fun8} (h : 0 ≤ topF ord f) : depF f (topF ord f) = true := by
  unfold topF at h ⊢
  cases hf : ord.find? (depF f) with
  | none => rw [hf] at h; simp at h
  | some v => exact (by simpa using List.find?_some hf)
theorem topF_none {ord : List Int} {f : Fun8} (h : ¬ 0 ≤ topF ord f) : (∀ v ∈ ord, depF f v = false) ∧ topF ord f = -1 := by
  unfold topF at h ⊢
  cases hf : ord.find? (depF f) with
  | none => exact ⟨fun v hv => by simpa using List.find?_eq_none.1 hf v hv, rfl⟩
  | some v =>
    have := dep_range (List.find?_some hf)
    rw [hf] at h; simp at h; omega
theorem supTo_zero {f : Fun8} : ∀ {k : Nat}, supTo f k = 0 ↔ ∀ v, v < k → depF f (v : Nat) = false
  | 0 => by simp [supTo]
  | k + 1 => by
    have hp : 0 < 2 ^ k := Nat.two_pow_pos k
    rw [supTo]
    constructor
    · intro h v hv
      by_cases e : v = k
      · subst e
        cases hd : depF f v
        · rfl
        · rw [hd] at h; simp at h
      · exact (supTo_zero (k := k)).1 (by omega) v (by omega)
    · intro h
      rw [(supTo_zero (k := k)).2 fun v hv => h v (by omega), h k (by omega)]
      simp
theorem supF_zero {f : Fun8} : supF f = 0 ↔ ∀ v : Int, depF f v = false := by
  rw [supF_def, supTo_zero]
  constructor
  · intro h v
    by_cases h' : 0 ≤ v ∧ v < 8
    · obtain ⟨n, rfl, hn⟩ := nat8 h'
      exact h n hn
    · exact depF_out h'
  · exact fun h v _ => h v
theorem kids_flat {ord : List Int} {f : Fun8} (h : supF f = 0) : kids ord f = [] := by
  unfold kids
  by_cases h' : 0 ≤ topF ord f
  · have := topF_dep h'
    rw [supF_zero.1 h] at this; cases this
  · rw [if_neg h']
def wt (f : Fun8) : Nat := 3 ^ nv f
def wts (l : List Fun8) : Nat := (l.map wt).sum
theorem wt_pos {f : Fun8} : 0 < wt f := Nat.pow_pos (by decide)
theorem wts_app {l k : List Fun8} : wts (l ++ k) = wts l + wts k := by simp [wts]
theorem wts_cons {f : Fun8} {l : List Fun8} : wts (f :: l) = wt f + wts l := by simp [wts]
theorem wts_nil : wts [] = 0 := rfl
theorem wts_kids {ord : List Int} {f : Fun8} : wts (kids ord f) < wt f := by
  unfold kids
  by_cases h : 0 ≤ topF ord f
  · have hd := topF_dep h
    rw [if_pos h, wts_cons, wts_cons, wts_nil]
    have key : ∀ b, 3 * wt (cofF f (topF ord f) b) ≤ wt f := fun b => by
      have := nv_cof (b := b) hd
      unfold wt
      calc 3 * 3 ^ nv (cofF f (topF ord f) b) = 3 ^ (nv (cofF f (topF ord f) b) + 1) := by rw [Nat.pow_succ]; omega
        _ ≤ 3 ^ nv f := Nat.pow_le_pow_right (by decide) this
    have h1 := key false
    have h2 := key true
    have := wt_pos (f := f)
    omega
  · rw [if_neg h]; exact wt_pos
section
variable {ord : List Int} {l keys work : List Fun8} {f : Fun8}
structure Dfs (ord : List Int) (l keys work : List Fun8) : Prop where
  nodup : keys.Nodup
  sn : ∀ f ∈ keys, Rch ord l f ∧ supF f ≠ 0
  wk : ∀ f ∈ work, Rch ord l f
  kd : ∀ f ∈ keys, ∀ g ∈ kids ord f, g ∈ keys ∨ g ∈ work ∨ supF g = 0
  all : ∀ g ∈ l, g ∈ keys ∨ g ∈ work ∨ supF g = 0
theorem Dfs.init : Dfs ord l [] l := ⟨List.nodup_nil, (fun f h => by cases h), fun _ h => .base h, (fun f h => by cases h), fun g h => .inr (.inl h)⟩
theorem Dfs.skip {ws : List Fun8} (h : Dfs ord l keys (ws ++ [f])) (hf : f ∈ keys ∨ supF f = 0) : Dfs ord l keys ws := by
  have key : ∀ g, g ∈ keys ∨ g ∈ ws ++ [f] ∨ supF g = 0 → g ∈ keys ∨ g ∈ ws ∨ supF g = 0 := by
    rintro g (h1 | h1 | h1)
    · exact .inl h1
    · rcases List.mem_append.1 h1 with h2 | h2
      · exact .inr (.inl h2)
      · rw [List.mem_singleton] at h2
        subst h2
        exact hf.elim .inl fun h => .inr (.inr h)
    · exact .inr (.inr h1)
  exact ⟨h.nodup, h.sn, fun g hg => h.wk g (by simp [hg]), fun g hg k hk => key k (h.kd g hg k hk), fun g hg => key g (h.all g hg)⟩
theorem Dfs.go {ws : List Fun8} (h : Dfs ord l keys (ws ++ [f])) (hk : f ∉ keys) (hs : supF f ≠ 0) : Dfs ord l (keys ++ [f]) (ws ++ kids ord f) := by
  have hr := h.wk f (by simp)
  have key : ∀ g, g ∈ keys ∨ g ∈ ws ++ [f] ∨ supF g = 0 → g ∈ keys ++ [f] ∨ g ∈ ws ++ kids ord f ∨ supF g = 0 := by
    rintro g (h1 | h1 | h1)
    · exact .inl (by simp [h1])
    · rcases List.mem_append.1 h1 with h2 | h2
      · exact .inr (.inl (by simp [h2]))
      · exact .inl (by simp at h2; simp [h2])
    · exact .inr (.inr h1)
  refine ⟨?_, ?_, ?_, ?_, fun g hg => key g (h.all g hg)⟩
  · rw [List.nodup_append]
    exact ⟨h.nodup, by simp, fun a ha b hb => by simp at hb; subst hb; intro e; subst e; exact hk ha⟩
  · intro g hg
    rcases List.mem_append.1 hg with h1 | h1
    · exact h.sn g h1
    · rw [List.mem_singleton] at h1; subst h1; exact ⟨hr, hs⟩
  · intro g hg
    rcases List.mem_append.1 hg with h1 | h1
    · exact h.wk g (by simp [h1])
    · exact .step hr h1
  · intro g hg k hgk
    rcases List.mem_append.1 hg with h1 | h1
    · exact key k (h.kd g h1 k hgk)
    · rw [List.mem_singleton] at h1; subst h1; exact .inr (.inl (by simp [hgk]))
theorem Dfs.done (h : Dfs ord l keys []) : IsNodes ord l keys := by
  refine ⟨h.nodup, fun f => ⟨h.sn f, fun ⟨hr, hs⟩ => ?_⟩⟩
  have key : ∀ g, Rch ord l g → g ∈ keys ∨ supF g = 0 := by
    intro g hg
    induction hg with
    | base h1 => rcases h.all _ h1 with h2 | h2 | h2
                 · exact .inl h2
                 · cases h2
                 · exact .inr h2
    | step _ h1 ih =>
      rcases ih with ih | ih
      · rcases h.kd _ ih _ h1 with h2 | h2 | h2
        · exact .inl h2
        · cases h2
        · exact .inr h2
      · rw [kids_flat ih] at h1; cases h1
  exact (key f hr).resolve_right hs
theorem Dfs.meas {ws : List Fun8} : wts (ws ++ kids ord f) < wts (ws ++ [f]) ∧ wts ws < wts (ws ++ [f]) := by
  have := wts_kids (ord := ord) (f := f)
  have := wt_pos (f := f)
  rw [wts_app, wts_app, wts_cons, wts_nil]; omega
structure Bfs (ord : List Int) (l seen out work : List Fun8) (i : Nat) : Prop where
  le : i ≤ work.length
  sn : ∀ f, f ∈ seen ↔ f ∈ work.take i
  nodup : out.Nodup
  ot : ∀ f, f ∈ out ↔ f ∈ work.take i ∧ supF f ≠ 0
  wk : ∀ f ∈ work, Rch ord l f
  kd : ∀ f ∈ work.take i, ∀ g ∈ kids ord f, g ∈ work
  all : ∀ f ∈ l, f ∈ work
variable {seen out : List Fun8} {i : Nat}
end
end Go.Bx

namespace Go.Proofs.Ytpeindhocndmnaa
open Go Go.Bx
set_option linter.unusedSimpArgs false
set_option linter.unusedVariables false
set_option maxRecDepth 100000
set_option maxHeartbeats 4000000
attribute [local irreducible] X XO XE XF XD XW thenX inX retX kN CallsR
theorem half_bit (x v : Nat) : (x / 2 ^ v % 2 == 1) = x.testBit v := by
  rw [Nat.testBit_eq_decide_div_mod_eq]
  cases h : decide (x / 2 ^ v % 2 = 1) <;> simpa using h
theorem bit_tmod (x v : Nat) : (((x : Int) / 2 ^ v).tmod 2 == 1) = x.testBit v := by
  have e : (x : Int) / 2 ^ v = ((x / 2 ^ v : Nat) : Int) := by rw [Int.natCast_ediv, Int.natCast_pow]; rfl
  rw [e, rem2, ← half_bit, Bool.eq_iff_iff]; simp only [beq_iff_eq]; omega
theorem half_step (x k : Nat) : ((x : Int) / 2 ^ k).tdiv 2 = (x : Int) / 2 ^ (k + 1) := by
  have e : ∀ k : Nat, (x : Int) / 2 ^ k = ((x / 2 ^ k : Nat) : Int) := fun k => by rw [Int.natCast_ediv, Int.natCast_pow]; rfl
  rw [e, e, quo2, Nat.pow_succ, ← Nat.div_div_eq_div_mul]
theorem half_le (x k : Nat) : 0 ≤ (x : Int) / 2 ^ k ∧ (x : Int) / 2 ^ k ≤ x := by
  have e : (x : Int) / 2 ^ k = ((x / 2 ^ k : Nat) : Int) := by rw [Int.natCast_ediv, Int.natCast_pow]; rfl
  have := Nat.div_le_self x (2 ^ k)
  rw [e]; exact ⟨Int.natCast_nonneg _, Int.ofNat_le.2 this⟩
theorem refBit_calls (x v : Nat) (hx : x < 256) (hv : v ≤ 256) (w : World) : CallsR Try.prog 125 #[.int .i64 x, .int .i64 v] w fun r w' => r = .bool (x.testBit v) ∧ Ext w w' := by
  refine en2 Try.func125 Try.results125 mixed [] ?_
  intro e0 h0 h1
  refine w_ fun d => ?_
  refine lo_ (fun W e w' => ∃ k : Nat, k ≤ v ∧ e 5 = .int .i64 k ∧ e 0 = .int .i64 ((x : Int) / 2 ^ k) ∧ w' = w) (fun e _ => v - nat (e 5)) ?_ ?_
  · exact ⟨0, by omega, eA rfl, by rw [Int.pow_zero, Int.ediv_one]; exact eA rfl, rfl⟩
  rintro e _ hf ⟨k, hk, h5, h0', rfl⟩
  have h1' := half_le x k
  have h1'' := half_le x (k + 1)
  have h2 := half_step x k
  have h3 := bit_tmod x k
  by_cases hlt : k < v
  · refine w_ fun d => ?_
    refine ⟨⟨k + 1, by omega, eA rfl, eA rfl, rfl⟩, mA⟩
  · obtain rfl : k = v := by omega
    refine w_ fun d => ?_
    exact ⟨rfl, ext_⟩
theorem refAt_calls (f : Fun8) (x : Int) (w : World) : CallsR Try.prog 72 #[fv f, .int .i64 x] w fun r w' => r = .bool (atF f x) ∧ Ext w w' := by
  refine en2 Try.func72 Try.results72 mixed [] ?_
  intro e0 h0 h1
  by_cases hx : 0 ≤ x ∧ x < 256
  · obtain ⟨n, rfl⟩ := Int.eq_ofNat_of_zero_le hx.1
    have hn : n < 256 := by omega
    have hn4 : n / 64 < 4 := by omega
    have e1 := wd4_get (f := f) hn4
    have e2 : (n : Int).tdiv 64 = (n : Int) / 64 := quo64
    have e3 : (n : Int).tmod 64 = (n : Int) % 64 := rem64
    refine w_ fun d => ?_
    refine ⟨?_, ext_⟩
    rw [atF_nat _ _ hn, bit_word f n]
  · have ho := atF_out hx f
    by_cases h0' : x < 0
    · refine w_ fun d => ?_
      exact ⟨by rw [ho], ext_⟩
    · refine w_ fun d => ?_
      exact ⟨by rw [ho], ext_⟩
theorem refAt_p (f : Fun8) (k : Nat) (hk : k < 256) : Sure Try.prog 72 #[fv f, .int .i64 k] (.bool (f.getLsbD k)) := fun w =>
  (refAt_calls f k w).mono fun r w' ⟨h, h2⟩ => ⟨by rw [h, atF_nat f k hk], h2⟩
theorem put_calls (f : Fun8) (x : Nat) (hx : x < 256) (b : Bool) (w : World) : CallsR Try.prog 114 #[fv f, .int .i64 x, .bool b] w fun r w' => r = fv (putF f x b) ∧ Ext w w' := by
  have hn4 : x / 64 < 4 := by omega
  have e1 := wd4_get (f := f) hn4
  have e2 : (x : Int).tdiv 64 = (x : Int) / 64 := quo64
  have e3 : (x : Int).tmod 64 = (x : Int) % 64 := rem64
  have e4 := wd4_put (f := f) hx
  rw [cells_fv] at e4
  refine en3 Try.func114 Try.results114 mixed [] ?_
  intro e0 h0 h1 h2
  cases b
  · refine w_ fun d => ?_
    exact ⟨by rw [putF_f], ext_⟩
  · refine w_ fun d => ?_
    exact ⟨rfl, ext_⟩
theorem put_p (p : Nat → Bool) (k : Nat) (hk : k < 256) {b : Bool} (hb : p k = b) : Sure Try.prog 114 #[fv (tabOf p k), .int .i64 k, .bool b] (fv (tabOf p (k + 1))) := fun w =>
  (put_calls _ k hk b w).mono fun r w' ⟨h, h2⟩ => ⟨by rw [h, ← putF_tab, hb], h2⟩
theorem refConst_calls (b : Bool) (w : World) : CallsR Try.prog 102 #[.bool b] w fun r w' => r = fv (constF b) ∧ Ext w w' := by
  refine en1 Try.func102 Try.results102 mixed [] ?_
  intro e0 h0
  refine w_ fun d => ?_
  refine lo_ (fun W e w' => ∃ k : Nat, k ≤ 256 ∧ e 4 = .int .i64 k ∧ w'.heap[w.heap.size + 1]? = some (.cells (fv (tabOf (fun _ => b) k)).cells 54) ∧ Chg (fun x => x = w.heap.size + 1) W w') (fun e _ => 256 - nat (e 4)) ?_ ?_
  · exact ⟨0, by omega, eA rfl, hA (by rw [← zero_cells]), chg_⟩
  rintro e w1 hf ⟨k, hk, h4, hb, hC⟩
  have hl := lt_of_heap hb
  rw [cells_fv] at hb
  by_cases hlt : k < 256
  · refine w_ fun d => ?_
    refine callQ (put_p (fun _ => b) k hlt rfl _) fun w2 hE hs => ?_
    refine w_ fun d => ?_
    exact ⟨⟨k + 1, by omega, eA rfl, hA rfl, chg_⟩, mA⟩
  · obtain rfl : k = 256 := by omega
    refine w_ fun d => ?_
    exact ⟨by rw [tab256, rows_const], extc_ hC⟩
theorem refVar_calls (v : Int) (w : World) : CallsR Try.prog 76 #[.int .i64 v] w fun r w' => r = fv (varF v) ∧ Ext w w' := by
  refine en1 Try.func76 Try.results76 mixed [] ?_
  intro e0 h0
  by_cases hv : 0 ≤ v ∧ v < 8
  · obtain ⟨n, rfl⟩ := Int.eq_ofNat_of_zero_le hv.1
    have hn : n < 8 := by omega
    refine w_ fun d => ?_
    refine lo_ (fun W e w' => ∃ k : Nat, k ≤ 256 ∧ e 4 = .int .i64 k ∧ w'.heap[w.heap.size + 1]? = some (.cells (fv (tabOf (fun x => x.testBit n) k)).cells 54) ∧ Chg (fun x => x = w.heap.size + 1) W w') (fun e _ => 256 - nat (e 4)) ?_ ?_
    · exact ⟨0, by omega, eA rfl, hA (by rw [← zero_cells]), chg_⟩
    rintro e w1 hf ⟨k, hk, h4, hb, hC⟩
    have hl := lt_of_heap hb
    rw [cells_fv] at hb
    by_cases hlt : k < 256
    · have c1 : Sure Try.prog 125 #[.int .i64 k, .int .i64 n] (.bool (k.testBit n)) := refBit_calls k n hlt (by omega)
      have c2 := put_p (fun x => x.testBit n) k hlt rfl
      refine w_ fun d => ?_
      intro w2 hE hs
      refine w_ fun d => ?_
      exact ⟨⟨k + 1, by omega, eA rfl, hA rfl, chg_⟩, mA⟩
    · obtain rfl : k = 256 := by omega
      refine w_ fun d => ?_
      exact ⟨by rw [tab256, rows_var hn], extc_ hC⟩
  · have ho := varF_out hv
    by_cases h0' : 0 ≤ v
    · refine w_ fun d => ?_
      refine un_ 1 ?_
      refine w_ fun d => ?_
      exact ⟨by rw [ho]; first | done | exact zero_fv, ext_⟩
    · refine w_ fun d => ?_
      refine un_ 1 ?_
      refine w_ fun d => ?_
      exact ⟨by rw [ho]; first | done | exact zero_fv, ext_⟩
theorem refIte_calls (f g h : Fun8) (w : World) : CallsR Try.prog 59 #[fv f, fv g, fv h] w fun r w' => r = fv (iteF f g h) ∧ Ext w w' := by
  refine en3 Try.func59 Try.results59 mixed [] ?_
  intro e0 h0 h1 h2
  refine w_ fun d => ?_
  refine lo_ (fun W e w' => ∃ k : Nat, k ≤ 256 ∧ e 8 = .int .i64 k ∧ w'.heap[w.heap.size + 4]? = some (.cells (fv (tabOf (fun x => if f.getLsbD x then g.getLsbD x else h.getLsbD x) k)).cells 54) ∧ Chg (fun x => x = w.heap.size + 4) W w') (fun e _ => 256 - nat (e 8)) ?_ ?_
  · exact ⟨0, by omega, eA rfl, hA (by rw [← zero_cells]), chg_⟩
  rintro e w1 hf ⟨k, hk, h8, hb, hC⟩
  have hl := lt_of_heap hb
  rw [cells_fv] at hb
  by_cases hlt : k < 256
  · refine w_ fun d => ?_
    refine callQ (refAt_p f k hlt _) fun w2 hE hs => ?_
    cases hfk : f.getLsbD k
    · have c1 := refAt_p h k hlt
      have c2 := put_p (fun x => if f.getLsbD x then g.getLsbD x else h.getLsbD x) k hlt (b := h.getLsbD k) (by simp [hfk])
      refine w_ fun d => ?_
      intro w3 hE2 hs2
      refine w_ fun d => ?_
      exact ⟨⟨k + 1, by omega, eA rfl, hA rfl, chg_⟩, mA⟩
    · have c1 := refAt_p g k hlt
      have c2 := put_p (fun x => if f.getLsbD x then g.getLsbD x else h.getLsbD x) k hlt (b := g.getLsbD k) (by simp [hfk])
      refine w_ fun d => ?_
      intro w3 hE2 hs2
      refine w_ fun d => ?_
      exact ⟨⟨k + 1, by omega, eA rfl, hA rfl, chg_⟩, mA⟩
  · obtain rfl : k = 256 := by omega
    refine w_ fun d => ?_
    exact ⟨by rw [tab256, rows_ite], extc_ hC⟩
theorem refNot_calls (f : Fun8) (w : World) : CallsR Try.prog 42 #[fv f] w fun r w' => r = fv (notF f) ∧ Ext w w' := by
  obtain ⟨A, hA⟩ : ∃ A, constF false = A := ⟨_, rfl⟩
  obtain ⟨B, hB⟩ : ∃ B, constF true = B := ⟨_, rfl⟩
  have c1 : Sure Try.prog 102 #[.bool false] (fv A) := hA ▸ refConst_calls false
  have c2 : Sure Try.prog 102 #[.bool true] (fv B) := hB ▸ refConst_calls true
  have c3 : Sure Try.prog 59 #[fv f, fv A, fv B] (fv (notF f)) := by rw [← iteF_not, hA, hB]; exact refIte_calls _ _ _
  clear hA hB
  refine en1 Try.func42 Try.results42 mixed [] ?_
  intro e0 h0
  refine w_ fun d => ?_
  intro w1 hE hs
  refine w_ fun d => ?_
  exact ⟨rfl, ext_⟩
theorem refAnd_calls (f g : Fun8) (w : World) : CallsR Try.prog 39 #[fv f, fv g] w fun r w' => r = fv (andF f g) ∧ Ext w w' := by
  refine en2 Try.func39 Try.results39 mixed [] ?_
  intro e0 h0 h1
  refine w_ fun d => ?_
  refine callQ (refIte_calls _ _ _ _) fun w1 hE hs => ?_
  refine w_ fun d => ?_
  exact ⟨by rw [iteF_and], ext_⟩
theorem refOr_calls (f g : Fun8) (w : World) : CallsR Try.prog 40 #[fv f, fv g] w fun r w' => r = fv (orF f g) ∧ Ext w w' := by
  refine en2 Try.func40 Try.results40 mixed [] ?_
  intro e0 h0 h1
  refine w_ fun d => ?_
  refine callQ (refIte_calls _ _ _ _) fun w1 hE hs => ?_
  refine w_ fun d => ?_
  exact ⟨by rw [iteF_or], ext_⟩
end Go.Proofs.Ytpeindhocndmnaa

namespace Go.Proofs.Ytpeindhocndmnaa
open Go Go.Bx
set_option linter.unusedSimpArgs false
set_option linter.unusedVariables false
set_option maxRecDepth 100000
set_option maxHeartbeats 4000000
attribute [local irreducible] X XO XE XF XD XW thenX inX retX kN CallsR
theorem refRow_calls (x v : Nat) (hx : x < 256) (hv : v < 8) (b : Bool) (w : World) : CallsR Try.prog 128 #[.int .i64 x, .int .i64 v, .bool b] w fun r w' => r = .int .i64 (setB x v b : Nat) ∧ Ext w w' := by
  have hp : ∀ k : Nat, k < 8 → 2 ^ k ≤ 128 ∧ 1 ≤ 2 ^ k := by decide
  refine en3 Try.func128 Try.results128 mixed [] ?_
  intro e0 h0 h1 h2
  refine w_ fun d => ?_
  refine lo_ (fun W e w' => ∃ k p : Nat, k ≤ v ∧ Box (p = 2 ^ k) ∧ e 8 = .int .i64 k ∧ e 7 = .int .i64 p ∧ w' = w) (fun e _ => v - nat (e 8)) ?_ ?_
  · exact ⟨0, 1, by omega, ⟨rfl⟩, eA rfl, eA rfl, rfl⟩
  rintro e _ hf ⟨k, p, hk, hpk, h8, h7, rfl⟩
  obtain ⟨hp1, hp2⟩ := hp k (by omega)
  rw [← hpk.out] at hp1 hp2
  by_cases hlt : k < v
  · refine w_ fun d => ?_
    refine ⟨⟨k + 1, 2 * p, by omega, ⟨by rw [hpk.out, Nat.pow_succ, Nat.mul_comm]⟩, eA rfl, eA (by rw [Int.natCast_mul]), rfl⟩, mA⟩
  · obtain rfl : k = v := by omega
    obtain ⟨q, ⟨hq⟩⟩ : ∃ q, Box (x / p = q) := ⟨_, ⟨rfl⟩⟩
    have hq2 : q ≤ x := hq ▸ Nat.div_le_self x p
    have e0 : (p : Int) ≠ 0 := by omega
    have e1 : (x : Int).tdiv (p : Int) = (q : Int) := by rw [Int.tdiv_eq_ediv_of_nonneg (by omega), ← hq]; rfl
    have e2 : ((q : Int).tmod 2 == 1) = x.testBit k := by rw [rem2, ← half_bit, ← hq, hpk.out, Bool.eq_iff_iff]; simp only [beq_iff_eq]; omega
    have hs : (setB x k b : Nat) = if x.testBit k then (if b then x else x - p) else (if b then x + p else x) := by rw [hpk.out]; rfl
    have hle : x.testBit k = true → p ≤ x := fun h => by rw [hpk.out]; exact Nat.ge_two_pow_of_testBit h
    rw [hs]
    clear hs hq
    cases hb : x.testBit k
    · rw [hb] at e2
      cases b
      · refine w_ fun d => ?_
        exact ⟨rfl, ext_⟩
      · refine w_ fun d => ?_
        exact ⟨rfl, ext_⟩
    · rw [hb] at e2
      have := hle hb
      cases b
      · refine w_ fun d => ?_
        exact ⟨congrArg _ (by simp only [if_true, Bool.false_eq_true, if_false]; omega), ext_⟩
      · refine w_ fun d => ?_
        exact ⟨congrArg _ (by simp only [if_true]; omega), ext_⟩
theorem refCof_calls (f : Fun8) (v : Int) (b : Bool) (w : World) : CallsR Try.prog 78 #[fv f, .int .i64 v, .bool b] w fun r w' => r = fv (cofF f v b) ∧ Ext w w' := by
  refine en3 Try.func78 Try.results78 mixed [] ?_
  intro e0 h0 h1 h2
  by_cases hv : 0 ≤ v ∧ v < 8
  · obtain ⟨n, rfl⟩ := Int.eq_ofNat_of_zero_le hv.1
    have hn : n < 8 := by omega
    refine w_ fun d => ?_
    refine lo_ (fun W e w' => ∃ k : Nat, k ≤ 256 ∧ e 8 = .int .i64 k ∧ w'.heap[w.heap.size + 2]? = some (.cells (fv (tabOf (fun x => f.getLsbD (setB x n b)) k)).cells 54) ∧ Chg (fun x => x = w.heap.size + 2) W w') (fun e _ => 256 - nat (e 8)) ?_ ?_
    · exact ⟨0, by omega, eA rfl, hA (by rw [← zero_cells]), chg_⟩
    rintro e w1 hf ⟨k, hk, h8, hb, hC⟩
    have hl := lt_of_heap hb
    rw [cells_fv] at hb
    by_cases hlt : k < 256
    · have c1 : Sure Try.prog 128 #[.int .i64 k, .int .i64 n, .bool b] _ := refRow_calls k n hlt hn b
      have c2 := refAt_p f (setB k n b) (setB_lt hlt hn)
      have c3 := put_p (fun x => f.getLsbD (setB x n b)) k hlt rfl
      refine w_ fun d => ?_
      intro w2 hE hs
      refine w_ fun d => ?_
      exact ⟨⟨k + 1, by omega, eA rfl, hA rfl, chg_⟩, mA⟩
    · obtain rfl : k = 256 := by omega
      refine w_ fun d => ?_
      exact ⟨by rw [tab256, cofF_rows hn], extc_ hC⟩
  · have ho := cofF_out (f := f) (b := b) hv
    by_cases h0' : v < 0
    · refine w_ fun d => ?_
      exact ⟨by rw [ho], ext_⟩
    · refine w_ fun d => ?_
      exact ⟨by rw [ho], ext_⟩
def supHi (f : Fun8) : Nat → Nat
  | 0 => 0
  | j + 1 => 2 * supHi f j + if depF f (7 - (j : Int)) then 1 else 0
theorem refExists_calls (f : Fun8) (v : Int) (w : World) : CallsR Try.prog 80 #[fv f, .int .i64 v] w fun r w' => r = fv (orF (cofF f v false) (cofF f v true)) ∧ Ext w w' := by
  have c1 : Sure Try.prog 78 #[fv f, .int .i64 v, .bool false] _ := refCof_calls f v false
  have c2 : Sure Try.prog 78 #[fv f, .int .i64 v, .bool true] _ := refCof_calls f v true
  have c3 : Sure Try.prog 40 #[fv (cofF f v false), fv (cofF f v true)] _ := refOr_calls _ _
  refine en2 Try.func80 Try.results80 mixed [] ?_
  intro e0 h0 h1
  refine w_ fun d => ?_
  intro w1 hE hs
  refine w_ fun d => ?_
  exact ⟨rfl, ext_⟩
theorem refForall_calls (f : Fun8) (v : Int) (w : World) : CallsR Try.prog 81 #[fv f, .int .i64 v] w fun r w' => r = fv (andF (cofF f v false) (cofF f v true)) ∧ Ext w w' := by
  have c1 : Sure Try.prog 78 #[fv f, .int .i64 v, .bool false] _ := refCof_calls f v false
  have c2 : Sure Try.prog 78 #[fv f, .int .i64 v, .bool true] _ := refCof_calls f v true
  have c3 : Sure Try.prog 39 #[fv (cofF f v false), fv (cofF f v true)] _ := refAnd_calls _ _
  refine en2 Try.func81 Try.results81 mixed [] ?_
  intro e0 h0 h1
  refine w_ fun d => ?_
  intro w1 hE hs
  refine w_ fun d => ?_
  exact ⟨rfl, ext_⟩
theorem refCompose_calls (f : Fun8) (v : Int) (g : Fun8) (w : World) : CallsR Try.prog 79 #[fv f, .int .i64 v, fv g] w fun r w' => r = fv (iteF g (cofF f v true) (cofF f v false)) ∧ Ext w w' := by
  have c1 : Sure Try.prog 78 #[fv f, .int .i64 v, .bool false] _ := refCof_calls f v false
  have c2 : Sure Try.prog 78 #[fv f, .int .i64 v, .bool true] _ := refCof_calls f v true
  have c3 : Sure Try.prog 59 #[fv g, fv (cofF f v true), fv (cofF f v false)] _ := refIte_calls _ _ _
  refine en3 Try.func79 Try.results79 mixed [] ?_
  intro e0 h0 h1 h2
  refine w_ fun d => ?_
  intro w1 hE hs
  refine w_ fun d => ?_
  exact ⟨rfl, ext_⟩
end Go.Proofs.Ytpeindhocndmnaa

namespace Go.Proofs.Ytpeindhocndmnaa
open Go Go.Bx
set_option linter.unusedSimpArgs false
set_option linter.unusedVariables false
set_option maxRecDepth 100000
set_option maxHeartbeats 4000000
attribute [local irreducible] X XO XE XF XD XW thenX inX retX kN CallsR
def rowF (f : Fun8) : List Value := vcs (fv f)
def rowsF (l : List Fun8) : Array Value := (l.map rowF).flatten.toArray
attribute [-push_cast] bs65_0 bs65_1 bs65_2
abbrev SlF (w : World) (a : Option Addr) (cap : Nat) (l : List Fun8) : Prop := Sl w 54 4 a cap (l.map rowF)
structure SizeI (w : World) (oc : Array Value) (ord : List Int) (l : List Fun8) (n : Nat) (e : Env) (w' : World) (a : Option Addr) (cap ck : Nat) (es : List (Ent Fun8)) (work : List Fun8) : Prop where
  h6 : e 6 = .slice a work.length cap
  sl : SlF w' a cap work
  new : ∀ g, blk a = some g → w.heap.size + 2 ≤ g
  ho : w'.heap[w.heap.size]? = some (.cells oc 36 (0, 0))
  hm : w'.heap[w.heap.size + 1]? = some (mObj fv es ck)
  inv : MInv es ck
  one : ∀ e ∈ es, e.2.1 = .int .i64 1
  dfs : Dfs ord l (es.map (·.1)) work
  wt : wts work = n
  le : n ≤ 6561000
  ext : Ext w w'
structure NodesI (w : World) (oc : Array Value) (ord : List Int) (l : List Fun8) (n : Nat) (e : Env) (w' : World) (a ao : Option Addr) (cap capo ck i : Nat) (es : List (Ent Fun8)) (work out : List Fun8) : Prop where
  h5 : e 5 = .slice ao out.length capo
  h7 : e 7 = .slice a work.length cap
  h8 : e 8 = .int .i64 i
  sl : SlF w' a cap work
  slo : SlF w' ao capo out
  new : ∀ g, blk a = some g → w.heap.size + 2 ≤ g
  newo : ∀ g, blk ao = some g → w.heap.size + 2 ≤ g
  dis : ∀ g, blk a = some g → ¬ blk ao = some g
  ho : w'.heap[w.heap.size]? = some (.cells oc 36 (0, 0))
  hm : w'.heap[w.heap.size + 1]? = some (mObj fv es ck)
  inv : MInv es ck
  one : ∀ e ∈ es, e.2.1 = .int .i64 1
  bfs : Bfs ord l (es.map (·.1)) out work i
  wt : wts (work.drop i) = n
  le : i + n ≤ 6561000
  ext : Ext w w'
end Go.Proofs.Ytpeindhocndmnaa

namespace Go.Proofs.Ytpeindhocndmnaa
open Go Go.Bx Go.ChangeShapes Go.WideShapes Go.ChangeAt Go.RowKit
set_option linter.unusedVariables false
set_option maxRecDepth 100000
theorem dec_num {H : Type} {enc : TypeId × Value → H} {W : World} {base : Nat} {spare : Nat → Bool} {held : Bool} : ∀ n cs x, DataW.trod enc Try.prog W base spare held n 3 cs = some x → ∃ y : Int, cs = [.int .i64 y] ∧ okI y := by
  intro n cs x h
  obtain ⟨y, h1, h2⟩ := dec_int Try.underlying3 n cs x h
  exact ⟨y, h1, wf_i64 h2⟩
theorem inI_of {w : World} {a : Option Addr} {l : List Int} (h : Inp w 1 a (l.map fun y => [.int .i64 y])) : InI w a l := by
  show Inp w 1 a ((l.map (Value.int .i64)).map fun v => [v])
  rw [List.map_map]
  exact h
end Go.Proofs.Ytpeindhocndmnaa

namespace Go.Bx
open Go
set_option linter.unusedSimpArgs false
set_option linter.unusedVariables false
def Md.bldN : Nat → Md → Fun8 → (Int × Int) × Md
  | 0, s, f => ((if f.getLsbD 0 then 1 else 0, 0), s)
  | k + 1, s, f =>
    if topF s.ord f < 0 then ((if f.getLsbD 0 then 1 else 0, 0), s)
    else if (Md.bldN k s (cofF f (topF s.ord f) false)).1.2 ≠ 0 then ((0, (Md.bldN k s (cofF f (topF s.ord f) false)).1.2), (Md.bldN k s (cofF f (topF s.ord f) false)).2)
    else if (Md.bldN k (Md.bldN k s (cofF f (topF s.ord f) false)).2 (cofF f (topF s.ord f) true)).1.2 ≠ 0 then
      ((0, (Md.bldN k (Md.bldN k s (cofF f (topF s.ord f) false)).2 (cofF f (topF s.ord f) true)).1.2), (Md.bldN k (Md.bldN k s (cofF f (topF s.ord f) false)).2 (cofF f (topF s.ord f) true)).2)
    else (Md.bldN k (Md.bldN k s (cofF f (topF s.ord f) false)).2 (cofF f (topF s.ord f) true)).2.mk' [] (topF s.ord f) (Md.bldN k s (cofF f (topF s.ord f) false)).1.1 (Md.bldN k (Md.bldN k s (cofF f (topF s.ord f) false)).2 (cofF f (topF s.ord f) true)).1.1
def Md.bld (s : Md) (f : Fun8) : (Int × Int) × Md := Md.bldN 8 s f
def low8 (x : Nat) : Nat := setB (setB (setB (setB (setB (setB (setB (setB x 0 false) 1 false) 2 false) 3 false) 4 false) 5 false) 6 false) 7 false
theorem low8_all : ∀ x : Nat, x < 256 → low8 x = 0 := by decide +kernel
theorem flat_const {f : Fun8} (h : ∀ v, depF f v = false) : f = constF (f.getLsbD 0) := by
  have st : ∀ (v : Nat), v < 8 → ∀ x, x < 256 → f.getLsbD (setB x v false) = f.getLsbD x := fun v hv x hx => by
    have h1 := cofF_bit (f := f) (b := false) hv hx
    rw [cof_nodep (h v)] at h1; exact h1.symm
  refine fn_ext fun x hx => ?_
  rw [bt_const hx]
  have hl : ∀ v x, v < 8 → x < 256 → setB x v false < 256 := fun v x hv hx => setB_lt hx hv
  have e := low8_all x hx
  unfold low8 at e
  rw [← e]
  have b0 := hl 0 x (by decide) hx
  have b1 := hl 1 _ (by decide) b0
  have b2 := hl 2 _ (by decide) b1
  have b3 := hl 3 _ (by decide) b2
  have b4 := hl 4 _ (by decide) b3
  have b5 := hl 5 _ (by decide) b4
  have b6 := hl 6 _ (by decide) b5
  rw [st 7 (by decide) _ b6, st 6 (by decide) _ b5, st 5 (by decide) _ b4, st 4 (by decide) _ b3, st 3 (by decide) _ b2, st 2 (by decide) _ b1, st 1 (by decide) _ b0, st 0 (by decide) _ hx]
section
variable {s s' : Md} {n m v lo hi : Int} {f g : Fun8} {ord : List Int}
theorem top_rng (h : 0 ≤ topF ord f) : 0 ≤ topF ord f ∧ topF ord f < 8 := dep_range (topF_dep h)
theorem top_first (O : OrdOK ord) {u : Int} (hu : depF f u = true) : 0 ≤ topF ord f ∧ lvl ord (topF ord f) ≤ lvl ord u := by
  have hr := dep_range hu
  obtain ⟨k, hk, he, hl⟩ := O.at hr.1 hr.2
  unfold topF
  cases hf : ord.find? (depF f) with
  | none =>
    have := List.find?_eq_none.1 hf u (List.mem_of_getElem? he)
    rw [hu] at this; simp at this
  | some v =>
    have hv := List.find?_some hf
    have hvr := dep_range hv
    refine ⟨hvr.1, ?_⟩
    simp only [Option.getD_some]
    rw [hl]
    obtain ⟨j, hj, hej, hlj⟩ := O.at hvr.1 hvr.2
    rw [hlj]
    -- all ahead of v do not count
    obtain ⟨i, hi, hie, hno⟩ := List.find?_eq_some_iff_getElem.1 hf |>.2
    have hij : i = j := O.one _ _ _ (by rw [List.getElem?_eq_getElem hi, hie]) hej
    by_cases hkj : j ≤ k
    · omega
    · exfalso
      have := hno k (by omega)
      have e2 : ord[k]'(by omega) = u := by
        have := he; rw [List.getElem?_eq_getElem (by omega)] at this; exact Option.some.inj this
      rw [e2, hu] at this; simp at this
theorem top_flat (O : OrdOK ord) (h : topF ord f < 0) : f = constF (f.getLsbD 0) := flat_const fun v => by
  cases hd : depF f v
  · rfl
  · have := (top_first O hd).1; omega
theorem den_const (b : Bool) : Den s (if b then 1 else 0) (constF b) := by cases b; exact .c0; exact .c1
theorem Md.Good.belowF (G : s.Good []) (d : Den s n f) (hv : ∀ u, depF f u = true → lvl s.ord v < lvl s.ord u) : s.below n v = true := by
  rcases d.there with e | e | e
  · exact Md.below_iff.2 (.inl e)
  · exact Md.below_iff.2 (.inr (.inl e))
  · exact Md.below_iff.2 (.inr (.inr ⟨e, hv _ (G.top e d)⟩))
theorem cof_behind (O : OrdOK ord) (h : 0 ≤ topF ord f) {b : Bool} {u : Int} (hu : depF (cofF f (topF ord f) b) u = true) : lvl ord (topF ord f) < lvl ord u := by
  have h1 := (top_first O (dep_of_cof hu)).2
  have h2 := top_rng h
  have h3 := dep_range hu
  have hne : topF ord f ≠ u := fun e => by rw [e, dep_cof] at hu; cases hu
  have : lvl ord (topF ord f) ≠ lvl ord u := fun e => hne (O.inj h2 h3 e)
  omega
structure Blt (s : Md) (f : Fun8) (r : (Int × Int) × Md) : Prop where
  good : r.2.Good []
  le : s.Le r.2
  res : (r.1.2 = 0 ∧ Den r.2 r.1.1 f) ∨ (r.1 = (0, 2) ∧ r.2.a.many = r.2.a.most)
theorem bldN_spec : ∀ (k : Nat) (s : Md) (f : Fun8), s.Good [] → nv f ≤ k → Blt s f (Md.bldN k s f) := by
  intro k
  induction k with
  | zero =>
    intro s f G hk
    have hf : f = constF (f.getLsbD 0) := flat_const fun v => by
      cases hd : depF f v
      · rfl
      · have := nv_cof (b := false) hd; omega
    refine ⟨G, Md.Le.refl s, .inl ⟨rfl, ?_⟩⟩
    show Den s (if f.getLsbD 0 then 1 else 0) f
    rw [hf, bt_const (by decide)]
    exact den_const _
  | succ k ih =>
    intro s f G hk
    unfold Md.bldN
    by_cases ht : topF s.ord f < 0
    · rw [if_pos ht]
      refine ⟨G, Md.Le.refl s, .inl ⟨rfl, ?_⟩⟩
      have hf := top_flat G.wf.ord ht
      show Den s (if f.getLsbD 0 then 1 else 0) f
      rw [hf, bt_const (by decide)]
      exact den_const _
    · rw [if_neg ht]
      have ht0 : 0 ≤ topF s.ord f := by omega
      have hd := topF_dep ht0
      have hr := top_rng ht0
      have b0 := ih s (cofF f (topF s.ord f) false) G (by have := nv_cof (b := false) hd; omega)
      generalize Md.bldN k s (cofF f (topF s.ord f) false) = r0 at b0
      obtain ⟨g0, l0, e0⟩ := b0
      rcases e0 with ⟨e0, d0⟩ | ⟨e0, m0⟩
      rotate_left
      · rw [e0, if_pos (by decide)]
        exact ⟨g0, l0, .inr ⟨rfl, m0⟩⟩
      rw [if_neg (by rw [e0]; simp)]
      have b1 := ih r0.2 (cofF f (topF s.ord f) true) g0 (by have := nv_cof (b := true) hd; omega)
      generalize Md.bldN k r0.2 (cofF f (topF s.ord f) true) = r1 at b1
      obtain ⟨g1, l1, e1⟩ := b1
      rcases e1 with ⟨e1, d1⟩ | ⟨e1, m1⟩
      rotate_left
      · rw [e1, if_pos (by decide)]
        exact ⟨g1, l0.trans l1, .inr ⟨rfl, m1⟩⟩
      rw [if_neg (by rw [e1]; simp)]
      have le := l0.trans l1
      have o1 : r1.2.ord = s.ord := le.ord
      have h0 : r1.2.below r0.1.1 (topF s.ord f) = true := g1.belowF (d0.mono l1) fun u hu => by rw [o1]; exact cof_behind G.wf.ord ht0 hu
      have h1 : r1.2.below r1.1.1 (topF s.ord f) = true := g1.belowF d1 fun u hu => by rw [o1]; exact cof_behind G.wf.ord ht0 hu
      obtain ⟨g2, l2, _⟩ := g1.mks (topF s.ord f) r0.1.1 r1.1.1
      refine ⟨g2, le.trans l2, ?_⟩
      rcases g1.mk_err hr h0 h1 with e | ⟨ea, eb, ec⟩
      · refine .inl ⟨e, ?_⟩
        have := (g1.made hr h0 h1 rfl e).2.2 _ _ (d0.mono l1) d1
        rwa [ite_cof] at this
      · rw [eb]; exact .inr ⟨ea, ec⟩
theorem Md.Good.mk_ex (G : s.Good []) (hn : s.has n = true) : s.mk' [] (s.nd n).1 (s.nd n).2.1 (s.nd n).2.2 = ((n, 0), s) := by
  have ok := G.node n hn (by simp)
  have hv := ok.var
  unfold Md.mk'
  rw [if_neg (by simp [ok.lo, ok.hi]; omega), if_neg ok.ne, G.wf.find_one hn (by simp) rfl fun m hm _ he => G.one m n hm (by simp) hn (by simp) he]
theorem bldN_ex (G : s.Good []) : ∀ (k : Nat) (n : Int) (f : Fun8), Den s n f → nv f ≤ k → Md.bldN k s f = ((n, 0), s) := by
  intro k
  induction k with
  | zero =>
    intro n f d hk
    have hf : f = constF (f.getLsbD 0) := flat_const fun v => by
      cases hd : depF f v
      · rfl
      · have := nv_cof (b := false) hd; omega
    have d2 : Den s (if f.getLsbD 0 then 1 else 0) f := by
      have := den_const (s := s) (f.getLsbD 0)
      rwa [← hf] at this
    have := G.canon d d2
    rw [this]; rfl
  | succ k ih =>
    intro n f d hk
    unfold Md.bldN
    by_cases ht : topF s.ord f < 0
    · rw [if_pos ht]
      have hf := top_flat G.wf.ord ht
      have d2 : Den s (if f.getLsbD 0 then 1 else 0) f := by
        have := den_const (s := s) (f.getLsbD 0)
        rwa [← hf] at this
      have := G.canon d d2
      rw [this]
    · rw [if_neg ht]
      have ht0 : 0 ≤ topF s.ord f := by omega
      have hd := topF_dep ht0
      have ⟨hn, hl⟩ := G.dep d hd
      have hl2 := (top_first G.wf.ord (G.top hn d)).2
      have hv : (s.nd n).1 = topF s.ord f := G.wf.ord.inj (G.node n hn (by simp)).var (top_rng ht0) (by omega)
      have ⟨d0, d1⟩ := G.sides d hn
      rw [hv] at d0 d1
      rw [ih _ _ d0 (by have := nv_cof (b := false) hd; omega)]
      simp only [ne_eq, not_true_eq_false, ↓reduceIte]
      rw [ih _ _ d1 (by have := nv_cof (b := true) hd; omega)]
      simp only [ne_eq, not_true_eq_false, ↓reduceIte]
      have := G.mk_ex hn
      rw [hv] at this
      exact this
theorem Md.Good.bld (G : s.Good []) (f : Fun8) : Blt s f (s.bld f) := bldN_spec 8 s f G nv_le
theorem Md.Good.bld_ex (G : s.Good []) (d : Den s n f) : s.bld f = ((n, 0), s) := bldN_ex G 8 n f d nv_le
end
end Go.Bx

namespace Go.Bx
open Go
set_option linter.unusedSimpArgs false
set_option linter.unusedVariables false
section
variable {s s' : Md} {n m v lo hi : Int} {f g h : Fun8}
theorem bldN_fuel : ∀ (k : Nat) (s : Md) (f : Fun8), nv f ≤ k → Md.bldN (k + 1) s f = Md.bldN k s f := by
  intro k
  induction k with
  | zero =>
    intro s f hk
    have : topF s.ord f < 0 := by
      by_cases h : 0 ≤ topF s.ord f
      · have := nv_cof (b := false) (topF_dep h); omega
      · omega
    rw [Md.bldN.eq_2 s f 0, if_pos this]; rfl
  | succ k ih =>
    intro s f hk
    rw [Md.bldN.eq_2 s f (k + 1), Md.bldN.eq_2 s f k]
    by_cases ht : topF s.ord f < 0
    · rw [if_pos ht, if_pos ht]
    · have hd := topF_dep (ord := s.ord) (f := f) (by omega)
      have h0 := fun s' => ih s' (cofF f (topF s.ord f) false) (by have := nv_cof (b := false) hd; omega)
      have h1 := fun s' => ih s' (cofF f (topF s.ord f) true) (by have := nv_cof (b := true) hd; omega)
      simp only [h0, h1]
theorem bldN_bld (h : nv f ≤ 7) : Md.bldN 7 s f = s.bld f := (bldN_fuel 7 s f h).symm
def SplB (s : Md) (v : Int) (f : Fun8) : Prop :=
    ((s.bld (cofF f v false)).1 = (0, 2) ∧ s.bld f = s.bld (cofF f v false)) ∨
    (∃ n0 s0, s.bld (cofF f v false) = ((n0, 0), s0) ∧ s0.Good [] ∧ s.Le s0 ∧ Den s0 n0 (cofF f v false) ∧
      (((s0.bld (cofF f v true)).1 = (0, 2) ∧ s.bld f = s0.bld (cofF f v true)) ∨
      (∃ n1 s1, s0.bld (cofF f v true) = ((n1, 0), s1) ∧ s1.Good [] ∧ s0.Le s1 ∧ Den s1 n1 (cofF f v true) ∧ s.bld f = s1.mk' [] v n0 n1)))
theorem bld_top (G : s.Good []) (ht0 : 0 ≤ topF s.ord f) : SplB s (topF s.ord f) f := by
  have hd := topF_dep ht0
  have n0 := nv_cof (b := false) hd
  have n1 := nv_cof (b := true) hd
  have nf := nv_le (f := f)
  have h0 := fun s' => bldN_bld (s := s') (f := cofF f (topF s.ord f) false) (by omega)
  have h1 := fun s' => bldN_bld (s := s') (f := cofF f (topF s.ord f) true) (by omega)
  have e1 : s.bld f = _ := Md.bldN.eq_2 s f 7
  simp only [h0, h1] at e1
  rw [if_neg (show ¬ topF s.ord f < 0 by omega)] at e1
  obtain ⟨g0, l0, c0⟩ := G.bld (cofF f (topF s.ord f) false)
  rcases c0 with ⟨c0, d0⟩ | ⟨c0, _⟩
  rotate_left
  · left
    rw [c0] at e1
    rw [if_pos (by decide)] at e1
    refine ⟨c0, e1.trans ?_⟩
    rw [← c0]
  right
  rw [if_neg (by rw [c0]; simp)] at e1
  refine ⟨_, _, by rw [← c0], g0, l0, d0, ?_⟩
  obtain ⟨g1, l1, c1⟩ := g0.bld (cofF f (topF s.ord f) true)
  rcases c1 with ⟨c1, d1⟩ | ⟨c1, _⟩
  rotate_left
  · left
    rw [c1] at e1
    rw [if_pos (by decide)] at e1
    refine ⟨c1, e1.trans ?_⟩
    rw [← c1]
  right
  rw [if_neg (by rw [c1]; simp)] at e1
  exact ⟨_, _, by rw [← c1], g1, l1, d1, e1⟩
theorem bld_split (G : s.Good []) (hv : 0 ≤ v ∧ v < 8) (hd : ∀ u, depF f u = true → lvl s.ord v ≤ lvl s.ord u) : SplB s v f := by
  cases hdv : depF f v
  · have e : ∀ b, cofF f v b = f := fun b => cof_nodep hdv
    obtain ⟨g0, l0, c0⟩ := G.bld f
    unfold SplB
    rw [e false, e true]
    rcases c0 with ⟨c0, d0⟩ | ⟨c0, _⟩
    rotate_left
    · exact .inl ⟨c0, rfl⟩
    right
    refine ⟨_, _, by rw [← c0], g0, l0, d0, .inr ⟨_, _, g0.bld_ex d0, g0, Md.Le.refl _, d0, ?_⟩⟩
    have hb : (s.bld f).2.below (s.bld f).1.1 v = true := g0.belowF d0 fun u hu => by
      have h1 := hd u hu
      have hne : lvl s.ord v ≠ lvl s.ord u := fun h => by
        have := G.wf.ord.inj hv (dep_range hu) h
        rw [this, hu] at hdv; cases hdv
      rw [l0.ord]; omega
    unfold Md.mk'
    rw [if_neg (by rw [hb]; simp; omega), if_pos rfl, ← c0]
  · have ht := top_first G.wf.ord hdv
    have htr := top_rng ht.1
    have : topF s.ord f = v := G.wf.ord.inj htr hv (by have := hd _ (topF_dep ht.1); omega)
    rw [← this]
    exact bld_top G ht.1
theorem Md.Good.side (G : s.Good []) (d : Den s n f) (hd : ∀ u, depF f u = true → lvl s.ord v ≤ lvl s.ord u) (hv : 0 ≤ v ∧ v < 8) (b : Bool) : Den s (s.side n v b) (cofF f v b) := by
  unfold Md.side
  by_cases ho : s.of n v = true
  · rw [if_pos ho]
    unfold Md.of at ho
    rw [Bool.and_eq_true] at ho
    have hx : (s.nd n).1 = v := by simpa using ho.2
    have ⟨d0, d1⟩ := G.sides d ho.1
    rw [hx] at d0 d1
    cases b
    · exact d0
    · exact d1
  · rw [if_neg ho]
    have : depF f v = false := by
      cases hdv : depF f v
      · rfl
      · exfalso
        have ⟨hn, hl⟩ := G.dep d hdv
        have h2 := hd _ (G.top hn d)
        have : (s.nd n).1 = v := G.wf.ord.inj (G.node n hn (by simp)).var hv (by omega)
        exact ho (by unfold Md.of; rw [hn, this]; simp)
    rw [cof_nodep this]; exact d
theorem nv_cof_le {b : Bool} : nv (cofF f v b) ≤ nv f := cnt_mono fun i _ hi => dep_of_cof hi
theorem dep_iteF (hu : depF (iteF f g h) v = true) : depF f v = true ∨ depF g v = true ∨ depF h v = true := by
  cases h1 : depF f v
  · cases h2 : depF g v
    · cases h3 : depF h v
      · have : depF (iteF f g h) v = false := nodep_of (by rw [cof_iteF, cof_iteF, cof_nodep h1, cof_nodep h2, cof_nodep h3, cof_nodep h1, cof_nodep h2, cof_nodep h3])
        rw [this] at hu; cases hu
      · simp
    · simp
  · simp
def easyN (f g h : Int) : Option Int := if f = 1 ∨ g = h then some g else if f = 0 then some h else if g = 1 ∧ h = 0 then some f else none
theorem iteF_10 : iteF f (constF true) (constF false) = f := fn_ext fun x hx => by
  rw [bt_ite hx, bt_const hx, bt_const hx]; cases f.getLsbD x <;> rfl
theorem easy_den {a b c : Int} (G : s.Good []) (df : Den s a f) (dg : Den s b g) (dh : Den s c h) (he : easyN a b c = some n) : Den s n (iteF f g h) := by
  unfold easyN at he
  by_cases h1 : a = 1 ∨ b = c
  · rw [if_pos h1] at he
    cases he
    rcases h1 with e | e
    · subst e
      rw [df.one, ite_const, if_pos rfl]; exact dg
    · subst e
      rw [dg.fn dh, iteF_same]; exact dh
  · rw [if_neg h1] at he
    by_cases h2 : a = 0
    · rw [if_pos h2] at he
      cases he
      subst h2
      rw [df.zero, ite_const, if_neg (by simp)]; exact dh
    · rw [if_neg h2] at he
      by_cases h3 : b = 1 ∧ c = 0
      · rw [if_pos h3] at he
        cases he
        obtain ⟨rfl, rfl⟩ := h3
        rw [dg.one, dh.zero, iteF_10]; exact df
      · rw [if_neg h3] at he; cases he
def topN (s : Md) (l : List Int) : Int := (s.ord.find? fun v => l.any fun n => s.of n v).getD (-1)
theorem topN_spec (G : s.Good []) {l : List Int} (hl : n ∈ l) (hn : s.has n = true) : (0 ≤ topN s l ∧ topN s l < 8) ∧ (∀ m ∈ l, s.has m = true → lvl s.ord (topN s l) ≤ lvl s.ord (s.nd m).1) ∧ ∃ m ∈ l, s.of m (topN s l) = true := by
  have O := G.wf.ord
  have key : ∀ m ∈ l, s.has m = true → ∃ k : Nat, k < 8 ∧ s.ord[k]? = some (s.nd m).1 ∧ lvl s.ord (s.nd m).1 = k ∧ (l.any fun n => s.of n (s.nd m).1) = true := fun m hm hh => by
    have hv := (G.node m hh (by simp)).var
    obtain ⟨k, hk, he, hlv⟩ := O.at hv.1 hv.2
    exact ⟨k, hk, he, hlv, List.any_eq_true.2 ⟨m, hm, by unfold Md.of; rw [hh]; simp⟩⟩
  unfold topN
  cases hf : s.ord.find? fun v => l.any fun n => s.of n v with
  | none =>
    obtain ⟨k, hk, he, hlv, ha⟩ := key n hl hn
    have := List.find?_eq_none.1 hf _ (List.mem_of_getElem? he)
    exact absurd ha this
  | some v =>
    simp only [Option.getD_some]
    have hv := List.find?_some hf
    obtain ⟨m, hm, hmv⟩ := List.any_eq_true.1 hv
    have hmv2 := hmv
    unfold Md.of at hmv2
    rw [Bool.and_eq_true] at hmv2
    have hmx : (s.nd m).1 = v := by simpa using hmv2.2
    have hvr := (G.node m hmv2.1 (by simp)).var
    rw [hmx] at hvr
    refine ⟨hvr, fun m2 hm2 hh2 => ?_, m, hm, hmv⟩
    obtain ⟨k, hk, he, hlv, ha⟩ := key m2 hm2 hh2
    obtain ⟨j, hj, hej, hlj⟩ := O.at hvr.1 hvr.2
    rw [hlv, hlj]
    obtain ⟨i, hi, hie, hno⟩ := List.find?_eq_some_iff_getElem.1 hf |>.2
    have hij : i = j := O.one _ _ _ (by rw [List.getElem?_eq_getElem hi, hie]) hej
    by_cases hkj : j ≤ k
    · omega
    · exfalso
      have := hno k (by omega)
      have e2 : s.ord[k]'(by omega) = (s.nd m2).1 := by
        have := he; rw [List.getElem?_eq_getElem (by omega)] at this; exact Option.some.inj this
      rw [e2, ha] at this; simp at this
theorem ite_step {a b c : Int} (G : s.Good []) (df : Den s a f) (dg : Den s b g) (dh : Den s c h) (he : easyN a b c = none) :
    (0 ≤ topN s [a, b, c] ∧ topN s [a, b, c] < 8) ∧ (∀ u, (depF f u = true ∨ depF g u = true ∨ depF h u = true) → lvl s.ord (topN s [a, b, c]) ≤ lvl s.ord u) ∧
    ∀ x, nv (cofF f (topN s [a, b, c]) x) + nv (cofF g (topN s [a, b, c]) x) + nv (cofF h (topN s [a, b, c]) x) < nv f + nv g + nv h := by
  have ha : s.has a = true := by
    rcases df.there with e | e | e
    · subst e; unfold easyN at he; by_cases h1 : (0 : Int) = 1 ∨ b = c
      · rw [if_pos h1] at he; cases he
      · rw [if_neg h1, if_pos rfl] at he; cases he
    · subst e; unfold easyN at he; rw [if_pos (.inl rfl)] at he; cases he
    · exact e
  obtain ⟨hv, hall, m, hm, hmo⟩ := topN_spec (l := [a, b, c]) G (by simp) ha
  have dp : ∀ (n : Int) (f : Fun8), n ∈ [a, b, c] → Den s n f → ∀ u, depF f u = true → lvl s.ord (topN s [a, b, c]) ≤ lvl s.ord u := fun n f hn d u hu => by
    have ⟨h1, h2⟩ := G.dep d hu
    have := hall n hn h1
    omega
  refine ⟨hv, fun u hu => ?_, fun x => ?_⟩
  · rcases hu with hu | hu | hu
    · exact dp a f (by simp) df u hu
    · exact dp b g (by simp) dg u hu
    · exact dp c h (by simp) dh u hu
  · have l1 := nv_cof_le (f := f) (v := topN s [a, b, c]) (b := x)
    have l2 := nv_cof_le (f := g) (v := topN s [a, b, c]) (b := x)
    have l3 := nv_cof_le (f := h) (v := topN s [a, b, c]) (b := x)
    unfold Md.of at hmo
    rw [Bool.and_eq_true] at hmo
    have hmx : (s.nd m).1 = topN s [a, b, c] := by simpa using hmo.2
    have tp : ∀ f, Den s m f → depF f (topN s [a, b, c]) = true := fun f d => by rw [← hmx]; exact G.top hmo.1 d
    rcases List.mem_cons.1 hm with e | hm
    · subst e; have := nv_cof (b := x) (tp f df); omega
    · rcases List.mem_cons.1 hm with e | hm
      · subst e; have := nv_cof (b := x) (tp g dg); omega
      · have e := List.mem_singleton.1 hm
        subst e; have := nv_cof (b := x) (tp h dh); omega
end
end Go.Bx

namespace Go.Proofs.Ytpeindhocndmnaa
open Go Go.Bx
set_option linter.unusedSimpArgs false
set_option linter.unusedVariables false
set_option maxRecDepth 100000
set_option maxHeartbeats 4000000
attribute [local irreducible] X XO XE XF XD XW thenX inX retX kN CallsR
def k3 (x : Int × Int × Int) : Value := .agg #[.int .i64 x.1, .int .i64 x.2.1, .int .i64 x.2.2]
theorem k3_equal {x y : Int × Int × Int} {w : World} : (Op.equal 182 (k3 x) (k3 y)).run Try.prog w = .ok (decide (x = y)) w := by
  obtain ⟨a, b, c⟩ := x
  obtain ⟨a', b', c'⟩ := y
  show (Op.equalIn (9999 + 1) _ _ _).run _ _ = _
  have hf : Try.prog.fieldsOf 182 = #[{ name := "f", type := 3, offset := 0, embedded := false, tag := "", pkgPath := "bower/ite", byteOffset := 0 }, { name := "g", type := 3, offset := 1, embedded := false, tag := "", pkgPath := "bower/ite", byteOffset := 8 }, { name := "h", type := 3, offset := 2, embedded := false, tag := "", pkgPath := "bower/ite", byteOffset := 16 }] := by kernel_rfl
  unfold k3
  rw [run_equalIn_struct w 9999 182 _ _ (by kernel_rfl) (by kernel_rfl), hf]
  have p1 : ∀ (x y z : Int), (part 3 #[.int .i64 x, .int .i64 y, .int .i64 z] 0).run Try.prog w = .ok (.int .i64 x) w := fun x y z => part_one T3 rfl rfl
  have p2 : ∀ (x y z : Int), (part 3 #[.int .i64 x, .int .i64 y, .int .i64 z] 1).run Try.prog w = .ok (.int .i64 y) w := fun x y z => part_one T3 rfl rfl
  have p4 : ∀ (x y z : Int), (part 3 #[.int .i64 x, .int .i64 y, .int .i64 z] 2).run Try.prog w = .ok (.int .i64 z) w := fun x y z => part_one T3 rfl rfl
  have p3 : ∀ (x y : Int), (Op.equalIn 9999 3 (.int .i64 x) (.int .i64 y)).run Try.prog w = .ok (x == y) w := fun x y => run_equalIn_int w 9998 3 .i64 .i64 x y T3.und
  have n1 : ("f" ≠ "_") = True := by decide
  have n2 : ("g" ≠ "_") = True := by decide
  have n3 : ("h" ≠ "_") = True := by decide
  simp only [Op.eqFields, n1, n2, n3, if_true, Sem.run_bind, p1, p2, p3, p4, Result.andThen_ok, Sem.run_ite, Sem.run_pure]
  by_cases h1 : a = a'
  · by_cases h2 : b = b'
    · by_cases h3 : c = c'
      · simp [h1, h2, h3]
      · have hb : (c == c') = false := by simpa using h3
        simp [h1, h2, h3, hb]
    · have hb : (b == b') = false := by simpa using h2
      simp [h1, h2, hb]
  · have ha : (a == a') = false := by simpa using h1
    simp [h1, ha]
theorem k3_keys : KeyOK Try.prog 182 k3 fun _ => True where
  check := fun e k w _ => by kernel_rfl
  find := find_of_eq (by kernel_rfl) fun a b w _ _ => k3_equal
  stay := fun k w _ => by
    have : Instr.sameBits 10000 (k3 k) (k3 k) = true := by
      show Instr.sameBits (9999 + 1) (k3 k) (k3 k) = true
      simp [k3, Instr.sameBits]
    simp [Instr.keyThatStays, this, pure, Sem.run]
section
variable {w : World} {b clock : Nat} {es : List (Ent (Int × Int × Int))} {x y z : Int} {v : Value}
theorem lu3 (h : w.heap[b]? = some (mObj k3 es clock)) : luO Try.prog 132 b (.agg #[.int .i64 x, .int .i64 y, .int .i64 z]) true w (some (mObj k3 es clock)) h = .ok (.tuple #[(mget es (x, y, z)).getD (.int .i64 0), .bool (mget es (x, y, z)).isSome]) w := lookup_at h T132 T3 k3_keys (k := (x, y, z)) trivial (fun _ _ => trivial) true
theorem mu3 (h : w.heap[b]? = some (mObj k3 es clock)) : muO Try.prog 132 b (.agg #[.int .i64 x, .int .i64 y, .int .i64 z]) v w (some (mObj k3 es clock)) h = .ok () (upd w b (mObj k3 (mput es (x, y, z) v clock) (mclock es (x, y, z) clock))) := update_at h T132 k3_keys (k := (x, y, z)) trivial (fun _ _ => trivial) v
attribute [push_cast] lu3 mu3
end
end Go.Proofs.Ytpeindhocndmnaa

namespace Go.Proofs.Ytpeindhocndmnaa
open Go Go.Bx
set_option linter.unusedSimpArgs false
set_option linter.unusedVariables false
set_option maxRecDepth 100000
set_option maxHeartbeats 4000000
attribute [local irreducible] X XO XE XF XD XW thenX inX retX kN CallsR
section
variable {own : Nat → Nat} {w w' w1 : World} {p : Nat} {s : Md} {n v : Int} {but : List Int}
theorem node_has (hh : s.has n = true) : s.node n = (s.nd n, true) := by unfold Md.node; rw [hh]; rfl
theorem node_no (hh : s.has n = false) : s.node n = ((0, 0, 0), false) := by unfold Md.node; rw [hh]; rfl
theorem iteThere_calls (h : StI own w p s []) (W : s.WF) (n : Int) (hn : n ≤ 9223372036854775807) : Quiet Try.prog 112 #[.pointer (some ⟨p, 0, none⟩), .int .i64 n] w (.bool (decide (n = 0) || (decide (n = 1) || s.has n))) := by
  intro u hu
  have n1 := (stNode_calls h W n hn).at hu
  cases hh : s.has n
  · rw [node_no hh] at n1
    simp only [ndV] at n1
    clear h W
    by_cases h0 : n = 0
    · subst h0
      refine en2 Try.func112 Try.results112 mixed [] ?_
      intro e0 h0 h1
      refine w_ fun d => ?_
      refine qq n1 fun w1 hE1 hs1 => ?_
      refine w_ fun d => ?_
      exact ⟨rfl, ext_⟩
    · have e0 : (n == 0) = false := by simpa using h0
      have d0 : decide (n = 0) = false := decide_eq_false h0
      by_cases h1 : n = 1
      · subst h1
        refine en2 Try.func112 Try.results112 mixed [] ?_
        intro e0 h0 h1
        refine w_ fun d => ?_
        refine qq n1 fun w1 hE1 hs1 => ?_
        refine w_ fun d => ?_
        exact ⟨rfl, ext_⟩
      · have e1 : (n == 1) = false := by simpa using h1
        have d1 : decide (n = 1) = false := decide_eq_false h1
        rw [d0, d1]
        clear d0 d1
        refine en2 Try.func112 Try.results112 mixed [] ?_
        intro e0 h0 h1
        refine w_ fun d => ?_
        refine qq n1 fun w1 hE1 hs1 => ?_
        refine w_ fun d => ?_
        exact ⟨rfl, ext_⟩
  · rw [node_has hh] at n1
    rw [Bool.or_true, Bool.or_true]
    obtain ⟨⟨a, b, c⟩, hz⟩ : ∃ z, s.nd n = z := ⟨_, rfl⟩
    rw [hz] at n1
    simp only [ndV] at n1
    clear h W hz hh
    refine en2 Try.func112 Try.results112 mixed [] ?_
    intro e0 h0 h1
    refine w_ fun d => ?_
    refine qq n1 fun w1 hE1 hs1 => ?_
    refine w_ fun d => ?_
    exact ⟨rfl, ext_⟩
theorem iteSide_calls (h : StI own w p s []) (W : s.WF) (n v : Int) (hn : n ≤ 9223372036854775807) (b : Bool) : Quiet Try.prog 150 #[.pointer (some ⟨p, 0, none⟩), .int .i64 n, .int .i64 v, .int .i64 (if b then 1 else 0)] w (.int .i64 (s.side n v b)) := by
  intro u hu
  have n1 := (stNode_calls h W n hn).at hu
  cases hh : s.has n
  · rw [node_no hh] at n1
    simp only [ndV] at n1
    have e : s.side n v b = n := by unfold Md.side Md.of; rw [hh]; rfl
    rw [e]
    clear h W hh e
    refine en4 Try.func150 Try.results150 mixed [] ?_
    intro e0 h0 h1 h2 h3
    refine w_ fun d => ?_
    refine qq n1 fun w1 hE1 hs1 => ?_
    refine w_ fun d => ?_
    exact ⟨rfl, ext_⟩
  · rw [node_has hh] at n1
    have e : s.side n v b = if (s.nd n).1 = v then (if b then (s.nd n).2.2 else (s.nd n).2.1) else n := by
      unfold Md.side Md.of; rw [hh]; simp
    rw [e]
    obtain ⟨⟨x, lo, hi⟩, hz⟩ : ∃ z, s.nd n = z := ⟨_, rfl⟩
    rw [hz] at n1 ⊢
    simp only [ndV] at n1
    dsimp only
    clear h W hz hh e
    by_cases hx : x = v
    · subst hx
      rw [if_pos rfl]
      cases b
      · refine en4 Try.func150 Try.results150 mixed [] ?_
        intro e0 h0 h1 h2 h3
        refine w_ fun d => ?_
        refine qq n1 fun w1 hE1 hs1 => ?_
        refine w_ fun d => ?_
        exact ⟨rfl, ext_⟩
      · refine en4 Try.func150 Try.results150 mixed [] ?_
        intro e0 h0 h1 h2 h3
        refine w_ fun d => ?_
        refine qq n1 fun w1 hE1 hs1 => ?_
        refine w_ fun d => ?_
        exact ⟨rfl, ext_⟩
    · rw [if_neg hx]
      have e0 : (x == v) = false := by simpa using hx
      refine en4 Try.func150 Try.results150 mixed [] ?_
      intro e0 h0 h1 h2 h3
      refine w_ fun d => ?_
      refine qq n1 fun w1 hE1 hs1 => ?_
      refine w_ fun d => ?_
      exact ⟨rfl, ext_⟩
theorem iteEasy_calls (f g h : Int) : Sure Try.prog 148 #[.int .i64 f, .int .i64 g, .int .i64 h] (.tuple #[.int .i64 ((easyN f g h).getD 0), .bool (easyN f g h).isSome]) := by
  intro w
  unfold easyN
  by_cases h1 : f = 1
  · subst h1
    rw [if_pos (.inl rfl)]
    refine en3 Try.func148 Try.results148 mixed [] ?_
    intro e0 h0 h1 h2
    refine w_ fun d => ?_
    exact ⟨rfl, ext_⟩
  · have e1 : (f == 1) = false := by simpa using h1
    by_cases h2 : g = h
    · subst h2
      rw [if_pos (.inr rfl)]
      refine en3 Try.func148 Try.results148 mixed [] ?_
      intro e0 h0 h1 h2
      refine w_ fun d => ?_
      exact ⟨rfl, ext_⟩
    · have e2 : (g == h) = false := by simpa using h2
      rw [if_neg (by rintro (h | h); exact h1 h; exact h2 h)]
      by_cases h3 : f = 0
      · subst h3
        rw [if_pos rfl]
        refine en3 Try.func148 Try.results148 mixed [] ?_
        intro e0 h0 h1 h2
        refine w_ fun d => ?_
        exact ⟨rfl, ext_⟩
      · have e3 : (f == 0) = false := by simpa using h3
        rw [if_neg h3]
        by_cases h4 : g = 1
        · subst h4
          by_cases h5 : h = 0
          · subst h5
            rw [if_pos ⟨rfl, rfl⟩]
            refine en3 Try.func148 Try.results148 mixed [] ?_
            intro e0 h0 h1 h2
            refine w_ fun d => ?_
            exact ⟨rfl, ext_⟩
          · have e5 : (h == 0) = false := by simpa using h5
            rw [if_neg fun h => h5 h.2]
            refine en3 Try.func148 Try.results148 mixed [] ?_
            intro e0 h0 h1 h2
            refine w_ fun d => ?_
            exact ⟨rfl, ext_⟩
        · have e4 : (g == 1) = false := by simpa using h4
          rw [if_neg fun h => h4 h.1]
          refine en3 Try.func148 Try.results148 mixed [] ?_
          intro e0 h0 h1 h2
          refine w_ fun d => ?_
          exact ⟨rfl, ext_⟩
end
end Go.Proofs.Ytpeindhocndmnaa

namespace Go.Proofs.Ytpeindhocndmnaa
open Go Go.Bx
set_option linter.unusedSimpArgs false
set_option linter.unusedVariables false
set_option maxRecDepth 100000
set_option maxHeartbeats 4000000
attribute [local irreducible] X XO XE XF XD XW thenX inX retX kN CallsR
section
variable {own : Nat → Nat} {w w' w1 : World} {p b : Nat} {s : Md} {n v : Int} {l : List Int}
theorem iteTop_calls (h : StI own w p s []) (W : s.WF) (hb : w.heap[b]? = some (.cells (ints l).toArray 3)) (hl : l.length ≤ 100) (hn : ∀ n ∈ l, n ≤ 9223372036854775807) : Quiet Try.prog 149 #[.pointer (some ⟨p, 0, none⟩), .slice (some ⟨b, 0, none⟩) l.length l.length] w (.int .i64 (topN s l)) := by
  intro u hu
  have hS := h.ext hu
  have hbu := hu.at hb
  have lbu := lt_of_heap hbu
  obtain ⟨oc, hoc⟩ := ordC (ord := s.ord) W.ord.len
  have od := stOrder_calls hS
  rw [hoc.agg] at od
  have hoz := hoc.size
  have hol := W.ord.len
  have hlz : ((ints l).toArray).size = l.length := by simp
  clear h hu hb
  refine en2 Try.func149 Try.results149 mixed [] ?_
  intro e0 h0 h1
  refine w_ fun d => ?_
  refine qq od fun u1 hE1 hs1 => ?_
  refine w_ fun d => ?_
  refine lo_ (fun _ e w' => ∃ k : Nat, k ≤ 8 ∧ e 13 = .int .i64 k ∧ (∀ i x, i < k → s.ord[i]? = some x → (l.any fun n => s.of n x) = false) ∧ Ext u1 w') (fun e _ => 8 - nat (e 13)) ?_ ?_
  · exact ⟨0, by omega, eA rfl, fun i x hi => by omega, ext_⟩
  rintro e v1 hf ⟨k, hk, h13, hno, hEv⟩
  have hEuv := hE1.trans hEv
  by_cases hk8 : k < 8
  · obtain ⟨x, hx⟩ : ∃ x, s.ord[k]? = some x := ⟨s.ord[k], List.getElem?_eq_getElem (by omega)⟩
    have hxc := hoc.at_ k x hx
    refine w_ fun d => ?_
    refine lo_ (fun _ e w' => ∃ j : Nat, j ≤ l.length ∧ e 18 = .int .i64 j ∧ (∀ i n, i < j → l[i]? = some n → s.of n x = false) ∧ Ext v1 w') (fun e _ => l.length - nat (e 18)) ?_ ?_
    · exact ⟨0, by omega, eA rfl, fun i n hi => by omega, ext_⟩
    rintro e2 v2 hf2 ⟨j, hj, h18, hnj, hE2⟩
    have hEv2 := hEuv.trans hE2
    have hb2 := hEv2.at hbu
    have lb2 := lt_of_heap hb2
    by_cases hjl : j < l.length
    · obtain ⟨n, hnn⟩ : ∃ n, l[j]? = some n := ⟨l[j], List.getElem?_eq_getElem hjl⟩
      have hcn : ((ints l).toArray)[j]? = some (.int .i64 n) := by simp [hnn]
      have n1 := stNode_calls hS W n (hn n (List.mem_of_getElem? hnn))
      have hltj : (j : Int) < l.length := by omega
      have next : s.of n x = false → ∀ i m, i < j + 1 → l[i]? = some m → s.of m x = false := fun ho i m hi hm => by
        rcases Nat.lt_or_ge i j with h | h
        · exact hnj i m h hm
        · obtain rfl : i = j := by omega
          rw [hnn] at hm; cases hm; exact ho
      cases hh : s.has n
      · have nx := next (by unfold Md.of; rw [hh]; rfl)
        rw [node_no hh] at n1
        simp only [ndV] at n1
        clear next hnj hno hh hnn hx
        refine w_ fun d => ?_
        refine qq n1 fun v3 hE3 hs3 => ?_
        refine w_ fun d => ?_
        exact ⟨⟨j + 1, by omega, eA rfl, nx, ext_⟩, mA⟩
      · rw [node_has hh] at n1
        obtain ⟨⟨a, lo, hi⟩, hz⟩ : ∃ z, s.nd n = z := ⟨_, rfl⟩
        rw [hz] at n1
        simp only [ndV] at n1
        by_cases hax : a = x
        · subst hax
          have htp : topN s l = a := by
            have hall : (l.any fun n => s.of n a) = true := List.any_eq_true.2 ⟨n, List.mem_of_getElem? hnn, by unfold Md.of; rw [hh, hz]; simp⟩
            unfold topN
            have hfd : (s.ord.find? fun v => l.any fun n => s.of n v) = some a := List.find?_eq_some_iff_getElem.2 ⟨hall, k, by omega, (List.getElem?_eq_some_iff.1 hx).2, fun i hi => by rw [hno i _ hi (List.getElem?_eq_getElem (by omega))]; rfl⟩
            rw [hfd]; rfl
          clear next hnj hno hh hnn hx hz
          refine w_ fun d => ?_
          refine qq n1 fun v3 hE3 hs3 => ?_
          refine w_ fun d => ?_
          exact ⟨by rw [htp], ext_⟩
        · have nx := next (by unfold Md.of; rw [hh, hz]; simp [hax])
          have hne : (a == x) = false := by simpa using hax
          clear next hnj hno hh hnn hx hz
          refine w_ fun d => ?_
          refine qq n1 fun v3 hE3 hs3 => ?_
          refine w_ fun d => ?_
          exact ⟨⟨j + 1, by omega, eA rfl, nx, ext_⟩, mA⟩
    · obtain rfl : j = l.length := by omega
      have nx : ∀ i y, i < k + 1 → s.ord[i]? = some y → (l.any fun n => s.of n y) = false := fun i y hi hy => by
        rcases Nat.lt_or_ge i k with h | h
        · exact hno i y h hy
        · obtain rfl : i = k := by omega
          rw [hx] at hy; cases hy
          rw [List.any_eq_false]
          intro m hm
          obtain ⟨q, hq, rfl⟩ := List.getElem_of_mem hm
          rw [hnj q _ hq (List.getElem?_eq_getElem hq)]; simp
      clear hnj hno hx
      refine w_ fun d => ?_
      exact ⟨⟨k + 1, by omega, eA rfl, nx, hEv.trans hE2⟩, mA⟩
  · obtain rfl : k = 8 := by omega
    have htp : topN s l = -1 := by
      unfold topN
      rw [List.find?_eq_none.2 fun x hx => ?_]; rfl
      obtain ⟨i, hi, rfl⟩ := List.getElem_of_mem hx
      rw [hno i _ (by omega) (List.getElem?_eq_getElem hi)]; simp
    clear hno
    refine w_ fun d => ?_
    exact ⟨by rw [htp], ext_⟩
end
end Go.Proofs.Ytpeindhocndmnaa

namespace Go.Proofs.Ytpeindhocndmnaa
open Go Go.Bx
set_option linter.unusedSimpArgs false
set_option linter.unusedVariables false
set_option maxRecDepth 100000
set_option maxHeartbeats 4000000
attribute [local irreducible] X XO XE XF XD XW thenX inX retX kN CallsR
structure KnF (s : Md) (es : List (Ent Fun8)) : Prop where
  den : ∀ e ∈ es, ∃ n : Int, e.2.1 = .int .i64 n ∧ Den s n e.1
  con : ∀ b, mget es (constF b) ≠ none
theorem KnF.mono {s s' : Md} {es : List (Ent Fun8)} (h : KnF s es) (hl : s.Le s') : KnF s' es := ⟨fun e he => by obtain ⟨n, h1, h2⟩ := h.den e he; exact ⟨n, h1, h2.mono hl⟩, h.con⟩
theorem KnF.put {s : Md} {es : List (Ent Fun8)} {ck : Nat} {f : Fun8} {n : Int} (h : KnF s es) (hI : MInv es ck) (d : Den s n f) : KnF s (mput es f (.int .i64 n) ck) := by
  refine ⟨fun e he => ?_, fun b => ?_⟩
  · rcases mput_mem hI.keys he with ⟨h1, _⟩ | ⟨h1, h2, _⟩
    · exact h.den e h1
    · exact ⟨n, h2, by rw [h1]; exact d⟩
  · rw [mget_put hI.keys]
    split
    · simp
    · exact h.con b
theorem KnF.get {s : Md} {es : List (Ent Fun8)} {f : Fun8} {v : Value} (h : KnF s es) (hg : mget es f = some v) : ∃ n : Int, v = .int .i64 n ∧ Den s n f := by
  obtain ⟨bb, hb⟩ := mget_some hg
  exact h.den _ hb
structure BtI (own : Nat → Nat) (w : World) (p : Nat) (s : Md) (bb bm : Nat) (es : List (Ent Fun8)) (ck : Nat) : Prop where
  sti : StI own w p s []
  hb : w.heap[bb]? = some (.cells #[.pointer (some ⟨p, 0, none⟩), .map (some bm)] 139)
  hm : w.heap[bm]? = some (mObj fv es ck)
  inv : MInv es ck
  kn : KnF s es
  ob : own bb = 0
  om : own bm = 0
section
variable {own own' : Nat → Nat} {w w' w1 w2 : World} {p bb bm ck : Nat} {s s' s2 : Md} {es : List (Ent Fun8)} {f : Fun8} {n : Int}
theorem BtI.ext (h : BtI own w p s bb bm es ck) (hE : Ext w w') : BtI own w' p s bb bm es ck := ⟨h.sti.ext hE, hE.at h.hb, hE.at h.hm, h.inv, h.kn, h.ob, h.om⟩
def BtT (own : Nat → Nat) (w : World) (p : Nat) (s' : Md) (bb bm : Nat) (w' : World) : Prop := ∃ own' es' ck', BtI own' w' p s' bb bm es' ck' ∧ (∀ k, k < w.heap.size → own' k = own k) ∧ Chg (fun k => own k ≠ 0 ∨ k = bm) w w'
theorem BtT.of_ext (h : BtI own w p s bb bm es ck) (hE : Ext w w') : BtT own w p s bb bm w' := ⟨own, es, ck, h.ext hE, fun _ _ => rfl, hE.chg _⟩
theorem bt_foot (ho : ∀ k, k < w.heap.size → own' k = own k) {k : Nat} (hk : k < w.heap.size) (h : own' k ≠ 0 ∨ k = bm) : own k ≠ 0 ∨ k = bm := h.imp (fun h => by rw [← ho k hk]; exact h) id
theorem BtT.ext (k : BtT own w p s bb bm w1) (hE : Ext w1 w2) : BtT own w p s bb bm w2 := by
  obtain ⟨o2, e2, c2, h1, h2, h3⟩ := k
  exact ⟨o2, e2, c2, h1.ext hE, h2, h3.transE hE⟩
theorem BtI.turn (h : BtI own w p s bb bm es ck) (hl : s.Le s') (hT : TrI own w p s' [] w') : ∃ own', BtI own' w' p s' bb bm es ck ∧ (∀ k, k < w.heap.size → own' k = own k) ∧ Chg (fun k => own k ≠ 0 ∨ k = bm) w w' := by
  obtain ⟨o, h1, h2, h3⟩ := hT
  have hk : ∀ k, k < w.heap.size → own k = 0 → w'.heap[k]? = w.heap[k]? := fun k hk h0 => h3.heap k hk fun hf => hf h0
  have lb := lt_of_heap h.hb
  have lm := lt_of_heap h.hm
  refine ⟨o, ⟨h1, (hk _ lb h.ob).trans h.hb, (hk _ lm h.om).trans h.hm, h.inv, h.kn.mono hl, (h2 _ lb).trans h.ob, (h2 _ lm).trans h.om⟩, h2, h3.mono fun k _ hk => .inl hk⟩
theorem BtI.put (h : BtI own w p s bb bm es ck) (d : Den s n f) : BtI own (upd w bm (mObj fv (mput es f (.int .i64 n) ck) (mclock es f ck))) p s bb bm (mput es f (.int .i64 n) ck) (mclock es f ck) := by
  have lm := lt_of_heap h.hm
  have hne : bb ≠ bm := fun e => by have h1 := h.hb; rw [e, h.hm] at h1; cases h1
  have hC : Chg (fun k => k = bm) w (upd w bm (mObj fv (mput es f (.int .i64 n) ck) (mclock es f ck))) := chg_
  exact ⟨h.sti.chg0 hC fun k hk => hk ▸ h.om, (hC.heap _ (lt_of_heap h.hb) hne).trans h.hb, upd_same lm, h.inv.put _ _, h.kn.put h.inv d, h.ob, h.om⟩
theorem bt_rng (W : s.WF) (d : Den s n f) : n ≤ 9223372036854775807 := by
  have := wf_N W
  rcases d.there with e | e | e
  · omega
  · omega
  · have := W.lt e; omega
structure BtS (own : Nat → Nat) (w : World) (bm : Nat) (own' : Nat → Nat) (w' : World) : Prop where
  ho : ∀ k, k < w.heap.size → own' k = own k
  ch : Chg (fun k => own k ≠ 0 ∨ k = bm) w w'
theorem BtS.of_ext (hE : Ext w w') : BtS own w bm own w' := ⟨fun _ _ => rfl, hE.chg _⟩
theorem BtS.trans {own1 own2 : Nat → Nat} (h : BtS own w bm own1 w1) (k : BtS own1 w1 bm own2 w2) : BtS own w bm own2 w2 :=
  ⟨fun j hj => (k.ho j (Nat.lt_of_lt_of_le hj h.ch.size)).trans (h.ho j hj), h.ch.trans k.ch fun b hb hf => bt_foot h.ho hb hf⟩
theorem BtS.ext {own1 : Nat → Nat} (h : BtS own w bm own1 w1) (hE : Ext w1 w2) : BtS own w bm own1 w2 := ⟨h.ho, h.ch.transE hE⟩
theorem BtS.out {own1 : Nat → Nat} (h : BtS own w bm own1 w1) {k : Nat} {o : Obj} (hk : w.heap[k]? = some o) (h0 : own k = 0) (hm : k ≠ bm) : own1 k = 0 ∧ w1.heap[k]? = some o :=
  ⟨(h.ho k (lt_of_heap hk)).trans h0, (h.ch.heap k (lt_of_heap hk) fun hf => hf.elim (fun h => h h0) hm).trans hk⟩
theorem BtS.to (h : BtS own w bm own' w') (hI : BtI own' w' p s' bb bm es ck) : BtT own w p s' bb bm w' := ⟨own', es, ck, hI, h.ho, h.ch⟩
theorem BtT.parts (h : BtT own w p s' bb bm w') : ∃ own' es' ck', BtI own' w' p s' bb bm es' ck' ∧ BtS own w bm own' w' := by
  obtain ⟨o, e, c, h1, h2, h3⟩ := h
  exact ⟨o, e, c, h1, h2, h3⟩
theorem rdBuild_found (h : BtI own w p s bb bm es ck) (hg : mget es f = some (.int .i64 n)) (l : Nat) : CallsR Try.prog 100 #[.pointer (some ⟨bb, 0, none⟩), fv f, .int .i64 l] w fun r w' => r = .tuple #[.int .i64 n, errV 0] ∧ Ext w w' := by
  obtain ⟨hI, hb, hm, _, _, _, _⟩ := h
  have lb := lt_of_heap hb
  have lm := lt_of_heap hm
  have g1 : (mget es f).isSome = true := by rw [hg]; rfl
  have g2 : (mget es f).getD (.int .i64 0) = .int .i64 n := by rw [hg]; rfl
  clear hI hg
  refine en3 Try.func100 Try.results100 mixed [(7, [8]), (10, [8]), (13, [9])] ?_
  intro e0 h0 h1 h2
  refine w_ fun d => ?_
  exact ⟨by rw [errV0], ext_⟩
theorem rdBuild_calls {p bb bm : Nat} : ∀ (k : Nat) (own : Nat → Nat) (w : World) (s : Md) (es : List (Ent Fun8)) (ck : Nat) (f : Fun8) (l : Nat), BtI own w p s bb bm es ck → s.Good [] → nv f ≤ k → l ≤ 8 → (∀ u, depF f u = true → (l : Int) ≤ lvl s.ord u) →
    CallsR Try.prog 100 #[.pointer (some ⟨bb, 0, none⟩), fv f, .int .i64 l] w fun r w' => r = .tuple #[.int .i64 (s.bld f).1.1, errV (s.bld f).1.2] ∧ BtT own w p (s.bld f).2 bb bm w' := by
  intro k
  induction k with
  | zero =>
    intro own w s es ck f l h G hk hl hd
    have hf : f = constF (f.getLsbD 0) := flat_const fun v => by
      cases hd : depF f v
      · rfl
      · have := nv_cof (b := false) hd; omega
    cases hg : mget es f with
    | none => exact absurd hg (by rw [hf]; exact h.kn.con _)
    | some v =>
      obtain ⟨n, rfl, d⟩ := h.kn.get hg
      rw [G.bld_ex d]
      refine (rdBuild_found h hg l).mono ?_
      rintro r w' ⟨rfl, hE⟩
      exact ⟨rfl, BtT.of_ext h hE⟩
  | succ k ih =>
    intro own w s es ck f l h G hk hl hd
    cases hg : mget es f with
    | some v =>
      obtain ⟨n, rfl, d⟩ := h.kn.get hg
      rw [G.bld_ex d]
      refine (rdBuild_found h hg l).mono ?_
      rintro r w' ⟨rfl, hE⟩
      exact ⟨rfl, BtT.of_ext h hE⟩
    | none =>
    have ht0 : 0 ≤ topF s.ord f := by
      by_cases h' : topF s.ord f < 0
      · exact absurd hg (by rw [top_flat G.wf.ord h']; exact h.kn.con _)
      · omega
    have hgo := bld_top G ht0
    have hdt := topF_dep ht0
    have hrt := top_rng ht0
    have htf := fun u hu => (top_first (f := f) (u := u) G.wf.ord hu).2
    have hbe := fun b u hu => cof_behind (f := f) (b := b) (u := u) G.wf.ord ht0 hu
    have nv0 := nv_cof (b := false) hdt
    have nv1 := nv_cof (b := true) hdt
    generalize topF s.ord f = v at hgo hdt hrt htf hbe nv0 nv1
    obtain ⟨m, hm8, hmo, hml⟩ := G.wf.ord.at hrt.1 hrt.2
    have hlm : l ≤ m := by have := hd v hdt; omega
    have O := G.wf.ord
    have W := G.wf
    have g1 : (mget es f).isSome = false := by rw [hg]; rfl
    have od := stOrder_calls h.sti
    obtain ⟨oc, hoc⟩ := ordC (ord := s.ord) O.len
    rw [hoc.agg] at od
    have ho8 := hoc.len8
    have hoe := hoc.cell
    have hoz := hoc.size
    have hoa := hoc.all
    have hb := h.hb
    have hm := h.hm
    have lb := lt_of_heap hb
    have lm := lt_of_heap hm
    clear hg hd
    refine en3 Try.func100 Try.results100 mixed [(7, [8]), (10, [8]), (13, [9])] ?_
    intro e0 h0 h1 h2
    refine w_ fun d => ?_
    refine qq od fun w1 hE1 hs1 => ?_
    refine w_ fun d => ?_
    refine at_w fun u hu => ?_
    have hEu : Ext w u := by rw [hu]; exact ext_
    have h4 : u.heap[w.heap.size]? = some (.cells #[vU (word f 0), vU (word f 1), vU (word f 2), vU (word f 3)] 54) := by rw [hu]; exact hA rfl
    have h10 : u.heap[w1.heap.size]? = some (.cells oc 36) := by rw [hu]; exact hA rfl
    have hbu := h.ext hEu
    obtain ⟨b10, hb10⟩ : ∃ b, w1.heap.size = b := ⟨_, rfl⟩
    obtain ⟨b4, hb4⟩ : ∃ b, w.heap.size = b := ⟨_, rfl⟩
    rw [hb10] at h10 ⊢
    rw [hb4] at h4 ⊢
    have o4 : own b4 = 0 := by
      cases ho : own b4 with
      | zero => rfl
      | succ q => have := h.sti.lt b4 (by omega); omega
    have o10 : own b10 = 0 := by
      cases ho : own b10 with
      | zero => rfl
      | succ q => have := h.sti.lt b10 (by omega); omega
    have hb := hbu.hb
    have hm := hbu.hm
    have lb := lt_of_heap hb
    have lm := lt_of_heap hm
    have l4 := lt_of_heap h4
    have l10 := lt_of_heap h10
    have m4 : b4 ≠ bm := by have := lt_of_heap h.hm; omega
    have m10 : b10 ≠ bm := by have := lt_of_heap h.hm; omega
    clear hu od hE1 hs1 hb4 hb10 h
    refine lo_ (fun _ e w' => ∃ i : Nat, i ≤ m ∧ e 2 = .int .i64 i ∧ Ext u w') (fun e _ => m - nat (e 2)) ?_ ?_
    · exact ⟨l, hlm, eA rfl, ext_⟩
    rintro e v1 hf ⟨i, him, h2, hEv⟩
    have hbv := hbu.ext hEv
    have h4v := hEv.at h4
    have h10v := hEv.at h10
    have l4v := lt_of_heap h4v
    have l10v := lt_of_heap h10v
    obtain ⟨x, hx⟩ : ∃ x, s.ord[i]? = some x := ⟨s.ord[i]'(by have := O.len; omega), List.getElem?_eq_getElem _⟩
    have hxc := hoc.at_ i x hx
    have hxl := O.lvl hx
    have dp : Sure Try.prog 140 #[fv f, .int .i64 x] (.bool (depF f x)) := depends_calls f x
    by_cases hi : i < m
    · have hnd : depF f x = false := by
        cases hdx : depF f x
        · rfl
        · have := htf x hdx; omega
      rw [hnd] at dp
      clear ih hgo hbu h4 h10
      refine w_ fun d => ?_
      intro v2 hE2 hs2
      refine w_ fun d => ?_
      exact ⟨⟨i + 1, by omega, eA rfl, ext_⟩, mA⟩
    obtain rfl : i = m := by omega
    obtain rfl : x = v := by rw [hmo] at hx; exact (Option.some.inj hx).symm
    rw [hdt] at dp
    have c0 : Sure Try.prog 141 #[fv f, .int .i64 x, .bool false] (fv (cofF f x false)) := cof_calls f x false
    have c1 : Sure Try.prog 141 #[fv f, .int .i64 x, .bool true] (fv (cofF f x true)) := cof_calls f x true
    have hbl := G.bld f
    have hEwv := hEu.trans hEv
    obtain ⟨R, hR⟩ : ∃ R, s.bld f = R := ⟨_, rfl⟩
    unfold SplB at hgo
    rw [hR] at hgo hbl ⊢
    have lo1 : ∀ u, depF (cofF f x false) u = true → ((i + 1 : Nat) : Int) ≤ lvl s.ord u := fun u hu => by have := hbe false u hu; omega
    have hi1 : ∀ u, depF (cofF f x true) u = true → ((i + 1 : Nat) : Int) ≤ lvl s.ord u := fun u hu => by have := hbe true u hu; omega
    clear htf hbe hbu h4 h10 hx hmo hml hxl l4 l10 hb hm lb lm hEu hEv
    clear hR
    refine w_ fun d => ?_
    intro v2 hE2 hs2
    have hbv2 := hbv.ext hE2
    have h42 := hE2.at h4v
    have h102 := hE2.at h10v
    have l42 := lt_of_heap h42
    have l102 := lt_of_heap h102
    have hEw2 := hEwv.trans hE2
    clear hbv h4v h10v l4v l10v hE2 hs2 hEwv dp
    refine w_ fun d => ?_
    refine s_draw (XD_ext ?_)
    refine de_ ?_
    refine xe2w fun v3 hE3 => ?_
    have hbv3 := hbv2.ext hE3
    have h43 := hE3.at h42
    have h103 := hE3.at h102
    have hEw3 := hEw2.trans hE3
    refine krA ?_
    refine ke ?_
    rw [show (i : Int) + 1 = ((i + 1 : Nat) : Int) by omega]
    refine (ih own v3 s es ck (cofF f x false) (i + 1) hbv3 G (by omega) (by omega) lo1).mono ?_
    rintro r v4 ⟨hr, hT⟩
    obtain ⟨own1, es1, ck1, hB1, hS1⟩ := BtT.parts hT
    have hT1 := (BtS.of_ext (own := own) (bm := bm) hEw3).trans hS1
    obtain ⟨o41, h44⟩ := hS1.out h43 o4 m4
    obtain ⟨o101, h104⟩ := hS1.out h103 o10 m10
    rcases hgo with ⟨e0, eR⟩ | ⟨n0, s0, e0, G0, L0, D0, hgo⟩
    · rw [eR, e0]
      rw [e0] at hr
      dsimp only at hr
      subst hr
      rw [errV2]
      clear ih hbv2 hbv3
      refine de_ ?_
      refine xn_ fun v5 hE5 hs5 => ?_
      refine w_ fun d => ?_
      exact ⟨rfl, (hT1.to hB1).ext ext_⟩
    rw [e0] at hr hB1
    dsimp only at hr hB1
    subst hr
    rw [errV0]
    refine de_ ?_
    refine xn_ fun v5 hE5 hs5 => ?_
    have hB5 := hB1.ext hE5
    have h45 := hE5.at h44
    have h105 := hE5.at h104
    have l45 := lt_of_heap h45
    have l105 := lt_of_heap h105
    have hT5 := hT1.ext hE5
    clear hbv2 hbv3 h42 h102 l42 l102 h43 h103 hEw2 hEw3 hE3 hB1 hT1 hS1 hT h44 h104 hE5 hs5
    refine w_ fun d => ?_
    refine s_draw (XD_ext ?_)
    refine de_ ?_
    refine xe2w fun v6 hE6 => ?_
    have hB6 := hB5.ext hE6
    have h46 := hE6.at h45
    have h106 := hE6.at h105
    refine krA ?_
    refine ke ?_
    rw [show (i : Int) + 1 = ((i + 1 : Nat) : Int) by omega]
    rw [← L0.ord] at hi1
    refine (ih own1 v6 s0 es1 ck1 (cofF f x true) (i + 1) hB6 G0 (by omega) (by omega) hi1).mono ?_
    rintro r v7 ⟨hr, hT⟩
    obtain ⟨own2, es2, ck2, hB2, hS2⟩ := BtT.parts hT
    have hT2 := (hT5.ext hE6).trans hS2
    obtain ⟨o42, h47⟩ := hS2.out h46 o41 m4
    obtain ⟨o102, h107⟩ := hS2.out h106 o101 m10
    rcases hgo with ⟨e1, eR⟩ | ⟨n1, s1, e1, G1, L1, D1, hgo⟩
    · rw [eR, e1]
      rw [e1] at hr
      dsimp only at hr
      subst hr
      rw [errV2]
      clear ih hB5 hB6
      refine de_ ?_
      refine xn_ fun v8 hE8 hs8 => ?_
      refine w_ fun d => ?_
      exact ⟨rfl, (hT2.to hB2).ext ext_⟩
    rw [e1] at hr hB2
    dsimp only at hr hB2
    subst hr
    rw [errV0]
    refine de_ ?_
    refine xn_ fun v8 hE8 hs8 => ?_
    have hB8 := hB2.ext hE8
    have h48 := hE8.at h47
    have h108 := hE8.at h107
    have l48 := lt_of_heap h48
    have l108 := lt_of_heap h108
    have hT8 := hT2.ext hE8
    have hb8 := hB8.hb
    have lb8 := lt_of_heap hb8
    have L01 := L0.trans L1
    have hmk := fun u (hu : Ext v8 u) => stMk_calls (v := x) ((hB8.ext hu).sti) G1 (bt_rng G1.wf (D0.mono L1)) (bt_rng G1.wf D1)
    rw [← hgo] at hmk
    have hLR : s1.Le R.2 := by rw [hgo]; exact (G1.mks _ _ _).2.1
    clear hB5 h45 h105 l45 l105 h46 h106 hB2 hT2 hS2 hT h47 h107 hE8 hs8 hE6 hT5 hB6 ih hgo e0 e1
    refine w_ fun d => ?_
    refine s_draw (XD_ext ?_)
    refine de_ ?_
    refine xe2w fun v9 hE9 => ?_
    have hB9 := hB8.ext hE9
    have h49 := hE9.at h48
    refine krA ?_
    refine ke ?_
    refine (hmk v9 hE9).mono ?_
    rintro _ v10 ⟨rfl, hTr⟩
    obtain ⟨own3, hB3, ho3, hC3⟩ := hB9.turn hLR hTr
    have hS3 : BtS own2 v9 bm own3 v10 := ⟨ho3, hC3⟩
    have hT3 := (hT8.ext hE9).trans hS3
    obtain ⟨o43, h410⟩ := hS3.out h49 o42 m4
    clear hmk
    refine de_ ?_
    refine xn_ fun va hEa hsa => ?_
    have hBa := hB3.ext hEa
    have hTa := hT3.ext hEa
    have h4a := hEa.at h410
    have hba := hBa.hb
    have hma := hBa.hm
    have l4a := lt_of_heap h4a
    have lba := lt_of_heap hba
    have lma := lt_of_heap hma
    obtain ⟨⟨Rn, Re⟩, R2⟩ := R
    dsimp only at hBa hTa hLR ⊢
    clear hB8 h48 h108 l48 l108 hb8 lb8 hE9 hB9 h49 hTr hB3 ho3 hC3 hS3 hT3 h410 hEa hsa hT8
    rcases hbl.res with ⟨e2, D2⟩ | ⟨e2, _⟩
    · dsimp only at e2 D2
      subst e2
      rw [errV0]
      have hput := hBa.put D2
      have hTp : BtS own3 va bm own3 (upd va bm (mObj fv (mput es2 f (.int .i64 Rn) ck2) (mclock es2 f ck2))) := ⟨fun _ _ => rfl, chg_⟩
      refine w_ fun d => ?_
      exact ⟨rfl, ((hTa.trans hTp).to hput).ext ext_⟩
    · cases e2
      rw [errV2]
      refine w_ fun d => ?_
      exact ⟨rfl, (hTa.to hBa).ext ext_⟩
end
end Go.Proofs.Ytpeindhocndmnaa

namespace Go.Proofs.Ytpeindhocndmnaa
open Go Go.Bx
set_option linter.unusedSimpArgs false
set_option linter.unusedVariables false
set_option maxRecDepth 100000
set_option maxHeartbeats 4000000
attribute [local irreducible] X XO XE XF XD XW thenX inX retX kN CallsR
def KnI (s : Md) (es : List (Ent (Int × Int × Int))) : Prop := ∀ x ∈ es, ∃ (n : Int) (f g h : Fun8), x.2.1 = .int .i64 n ∧ Den s x.1.1 f ∧ Den s x.1.2.1 g ∧ Den s x.1.2.2 h ∧ Den s n (iteF f g h)
theorem KnI.den {s s' : Md} {es : List (Ent (Int × Int × Int))} (h : KnI s es) (hd : ∀ n f, Den s n f → Den s' n f) : KnI s' es := fun x hx => by
  obtain ⟨n, f, g, k, h1, h2, h3, h4, h5⟩ := h x hx
  exact ⟨n, f, g, k, h1, hd _ _ h2, hd _ _ h3, hd _ _ h4, hd _ _ h5⟩
theorem KnI.put {s : Md} {es : List (Ent (Int × Int × Int))} {ck : Nat} {a b c n : Int} {f g k : Fun8} (h : KnI s es) (hI : MInv es ck) (d1 : Den s a f) (d2 : Den s b g) (d3 : Den s c k) (d : Den s n (iteF f g k)) : KnI s (mput es (a, b, c) (.int .i64 n) ck) := by
  intro x hx
  rcases mput_mem hI.keys hx with ⟨h1, _⟩ | ⟨h1, h2, _⟩
  · exact h x h1
  · refine ⟨n, f, g, k, h2, ?_, ?_, ?_, d⟩
    · rw [h1]; exact d1
    · rw [h1]; exact d2
    · rw [h1]; exact d3
theorem KnI.get {s : Md} {es : List (Ent (Int × Int × Int))} {a b c : Int} {f g k : Fun8} {v : Value} (h : KnI s es) (hg : mget es (a, b, c) = some v) (d1 : Den s a f) (d2 : Den s b g) (d3 : Den s c k) : ∃ n : Int, v = .int .i64 n ∧ Den s n (iteF f g k) := by
  obtain ⟨bb, hb⟩ := mget_some hg
  obtain ⟨n, f', g', k', h1, h2, h3, h4, h5⟩ := h _ hb
  dsimp only at h1 h2 h3 h4
  rw [h2.fn d1, h3.fn d2, h4.fn d3] at h5
  exact ⟨n, h1, h5⟩
structure IcI (own : Nat → Nat) (w : World) (p : Nat) (s : Md) (pc bm : Nat) (es : List (Ent (Int × Int × Int))) (ck : Nat) : Prop where
  sti : StI own w p s []
  hb : w.heap[pc]? = some (.cells #[.map (some bm)] 134)
  hm : w.heap[bm]? = some (mObj k3 es ck)
  inv : MInv es ck
  kn : KnI s es
  ob : own pc = 0
  om : own bm = 0
section
variable {own own' own1 : Nat → Nat} {w w' w1 w2 : World} {p pc bm ck : Nat} {s s' s2 : Md} {es : List (Ent (Int × Int × Int))} {n a b c : Int} {f g k : Fun8}
theorem IcI.ext (h : IcI own w p s pc bm es ck) (hE : Ext w w') : IcI own w' p s pc bm es ck := ⟨h.sti.ext hE, hE.at h.hb, hE.at h.hm, h.inv, h.kn, h.ob, h.om⟩
def IcT (own : Nat → Nat) (w : World) (p : Nat) (s' : Md) (pc bm : Nat) (w' : World) : Prop := ∃ own' es' ck', IcI own' w' p s' pc bm es' ck' ∧ BtS own w bm own' w'
theorem IcT.of_ext (h : IcI own w p s pc bm es ck) (hE : Ext w w') : IcT own w p s pc bm w' := ⟨own, es, ck, h.ext hE, BtS.of_ext hE⟩
theorem IcT.ext (k : IcT own w p s pc bm w1) (hE : Ext w1 w2) : IcT own w p s pc bm w2 := by
  obtain ⟨o2, e2, c2, h1, h2⟩ := k
  exact ⟨o2, e2, c2, h1.ext hE, h2.ext hE⟩
theorem IcT.trans (h : BtS own w bm own1 w1) (k : IcT own1 w1 p s pc bm w2) : IcT own w p s pc bm w2 := by
  obtain ⟨o2, e2, c2, h1, h2⟩ := k
  exact ⟨o2, e2, c2, h1, h.trans h2⟩
theorem IcI.turn (h : IcI own w p s pc bm es ck) (hd : ∀ n f, Den s n f → Den s' n f) (hT : TrI own w p s' [] w') : ∃ own', IcI own' w' p s' pc bm es ck ∧ BtS own w bm own' w' := by
  obtain ⟨o, h1, h2, h3⟩ := hT
  have hk : ∀ k, k < w.heap.size → own k = 0 → w'.heap[k]? = w.heap[k]? := fun k hk h0 => h3.heap k hk fun hf => hf h0
  have lb := lt_of_heap h.hb
  have lm := lt_of_heap h.hm
  refine ⟨o, ⟨h1, (hk _ lb h.ob).trans h.hb, (hk _ lm h.om).trans h.hm, h.inv, h.kn.den hd, (h2 _ lb).trans h.ob, (h2 _ lm).trans h.om⟩, h2, h3.mono fun k _ hk => .inl hk⟩
theorem IcI.put (h : IcI own w p s pc bm es ck) (d1 : Den s a f) (d2 : Den s b g) (d3 : Den s c k) (d : Den s n (iteF f g k)) : IcI own (upd w bm (mObj k3 (mput es (a, b, c) (.int .i64 n) ck) (mclock es (a, b, c) ck))) p s pc bm (mput es (a, b, c) (.int .i64 n) ck) (mclock es (a, b, c) ck) := by
  have lm := lt_of_heap h.hm
  have hne : pc ≠ bm := fun e => by have h1 := h.hb; rw [e, h.hm] at h1; cases h1
  have hC : Chg (fun k => k = bm) w (upd w bm (mObj k3 (mput es (a, b, c) (.int .i64 n) ck) (mclock es (a, b, c) ck))) := chg_
  exact ⟨h.sti.chg0 hC fun k hk => hk ▸ h.om, (hC.heap _ (lt_of_heap h.hb) hne).trans h.hb, upd_same lm, h.inv.put _ _, h.kn.put h.inv d1 d2 d3 d, h.ob, h.om⟩
theorem ite_easy (he : easyN a b c = some n) (w : World) : CallsR Try.prog 113 #[.pointer (some ⟨pc, 0, none⟩), .pointer (some ⟨p, 0, none⟩), .int .i64 a, .int .i64 b, .int .i64 c] w fun r w' => r = .tuple #[.int .i64 n, errV 0] ∧ Ext w w' := by
  have e1 := iteEasy_calls a b c
  rw [he] at e1
  simp only [Option.getD_some, Option.isSome_some] at e1
  refine en5 Try.func113 Try.results113 mixed [] ?_
  intro e0 h0 h1 h2 h3 h4
  refine w_ fun d => ?_
  refine qq (e1.quiet (w := w)) fun w1 hE1 hs1 => ?_
  refine w_ fun d => ?_
  exact ⟨by rw [errV0], ext_⟩
theorem ite_found (h : IcI own w p s pc bm es ck) (he : easyN a b c = none) (hg : mget es (a, b, c) = some (.int .i64 n)) : CallsR Try.prog 113 #[.pointer (some ⟨pc, 0, none⟩), .pointer (some ⟨p, 0, none⟩), .int .i64 a, .int .i64 b, .int .i64 c] w fun r w' => r = .tuple #[.int .i64 n, errV 0] ∧ Ext w w' := by
  have e1 := iteEasy_calls a b c
  rw [he] at e1
  simp only [Option.getD_none, Option.isSome_none] at e1
  obtain ⟨_, hb, hm, _, _, _, _⟩ := h
  have g1 : (mget es (a, b, c)).isSome = true := by rw [hg]; rfl
  have g2 : (mget es (a, b, c)).getD (.int .i64 0) = .int .i64 n := by rw [hg]; rfl
  clear hg he
  refine en5 Try.func113 Try.results113 mixed [] ?_
  intro e0 h0 h1 h2 h3 h4
  refine w_ fun d => ?_
  refine qq (e1.quiet (w := w)) fun w1 hE1 hs1 => ?_
  have hb1 := hE1.at hb
  have hm1 := hE1.at hm
  have lb := lt_of_heap hb1
  have lm := lt_of_heap hm1
  refine w_ fun d => ?_
  exact ⟨by rw [errV0], ext_⟩
end
end Go.Proofs.Ytpeindhocndmnaa

namespace Go.Proofs.Ytpeindhocndmnaa
open Go Go.Bx
set_option linter.unusedSimpArgs false
set_option linter.unusedVariables false
set_option maxRecDepth 100000
set_option maxHeartbeats 4000000
attribute [local irreducible] X XO XE XF XD XW thenX inX retX kN CallsR
theorem IcI.chg0 {own : Nat → Nat} {w w' : World} {p pc bm ck : Nat} {s : Md} {es : List (Ent (Int × Int × Int))} {F : Nat → Prop} (h : IcI own w p s pc bm es ck) (hC : Chg F w w') (hF : ∀ k, F k → own k = 0) (h1 : ¬ F pc) (h2 : ¬ F bm) : IcI own w' p s pc bm es ck :=
  ⟨h.sti.chg0 hC hF, (hC.heap _ (lt_of_heap h.hb) h1).trans h.hb, (hC.heap _ (lt_of_heap h.hm) h2).trans h.hm, h.inv, h.kn, h.ob, h.om⟩
theorem BtS.loc {own own1 : Nat → Nat} {w w1 w2 : World} {bm : Nat} {F : Nat → Prop} (h : BtS own w bm own1 w1) (hC : Chg F w1 w2) (hF : ∀ k, F k → w.heap.size ≤ k) : BtS own w bm own1 w2 := ⟨h.ho, h.ch.trans hC fun b hb hf => absurd (hF b hf) (by omega)⟩
theorem iteGo_calls {p pc bm : Nat} : ∀ (m : Nat) (own : Nat → Nat) (w : World) (s : Md) (es : List (Ent (Int × Int × Int))) (ck : Nat) (a b c : Int) (f g k : Fun8), IcI own w p s pc bm es ck → s.Good [] → Den s a f → Den s b g → Den s c k → nv f + nv g + nv k ≤ m →
    CallsR Try.prog 113 #[.pointer (some ⟨pc, 0, none⟩), .pointer (some ⟨p, 0, none⟩), .int .i64 a, .int .i64 b, .int .i64 c] w fun r w' => r = .tuple #[.int .i64 (s.bld (iteF f g k)).1.1, errV (s.bld (iteF f g k)).1.2] ∧ IcT own w p (s.bld (iteF f g k)).2 pc bm w' := by
  intro m
  induction m using Nat.strongRecOn with
  | _ m ih =>
  intro own w s es ck a b c f g k h G da db dc hme
  cases he : easyN a b c with
  | some n =>
    rw [G.bld_ex (easy_den G da db dc he)]
    refine (ite_easy he w).mono ?_
    rintro r w' ⟨rfl, hE⟩
    exact ⟨rfl, IcT.of_ext h hE⟩
  | none =>
  cases hg : mget es (a, b, c) with
  | some v =>
    obtain ⟨n, rfl, d⟩ := h.kn.get hg da db dc
    rw [G.bld_ex d]
    refine (ite_found h he hg).mono ?_
    rintro r w' ⟨rfl, hE⟩
    exact ⟨rfl, IcT.of_ext h hE⟩
  | none =>
  obtain ⟨hv, hd, hms⟩ := ite_step G da db dc he
  have ra := bt_rng G.wf da
  have rb := bt_rng G.wf db
  have rc := bt_rng G.wf dc
  have tp : ∀ u bb, Ext w u → u.heap[bb]? = some (.cells #[.int .i64 a, .int .i64 b, .int .i64 c] 3) → CallsR Try.prog 149 #[.pointer (some ⟨p, 0, none⟩), .slice (some ⟨bb, 0, none⟩) 3 3] u fun r u' => r = .int .i64 (topN s [a, b, c]) ∧ Ext u u' :=
    fun u bb hE hb => (iteTop_calls (l := [a, b, c]) (h.sti.ext hE) G.wf hb (by simp) (fun n hn => by
      simp only [List.mem_cons, List.not_mem_nil, or_false] at hn
      rcases hn with rfl | rfl | rfl
      · exact ra
      · exact rb
      · exact rc)).call
  generalize topN s [a, b, c] = v at hv hd hms tp
  have hsp := bld_split (f := iteF f g k) G hv (fun u hu => hd u (dep_iteF hu))
  unfold SplB at hsp
  simp only [cof_iteF] at hsp
  have hbl := G.bld (iteF f g k)
  obtain ⟨R, hR⟩ : ∃ R, s.bld (iteF f g k) = R := ⟨_, rfl⟩
  rw [hR] at hsp hbl ⊢
  clear hR
  have fa := G.side da (fun u hu => hd u (.inl hu)) hv false
  have fb := G.side db (fun u hu => hd u (.inr (.inl hu))) hv false
  have fc := G.side dc (fun u hu => hd u (.inr (.inr hu))) hv false
  have e1 := iteEasy_calls a b c
  rw [he] at e1
  simp only [Option.getD_none, Option.isSome_none] at e1
  have g1 : (mget es (a, b, c)).isSome = false := by rw [hg]; rfl
  have hb := h.hb
  have hm := h.hm
  clear hg he
  refine en5 Try.func113 Try.results113 mixed [] ?_
  intro e0 h0 h1 h2 h3 h4
  refine w_ fun d => ?_
  refine qq (e1.quiet (w := w)) fun w1 hE1 hs1 => ?_
  have hb1 := hE1.at hb
  have hm1 := hE1.at hm
  have lb := lt_of_heap hb1
  have lm := lt_of_heap hm1
  refine w_ fun d => ?_
  refine callQ (tp _ _ ext_ (hA rfl)) fun w2 hE2 hs2 => ?_
  refine w_ fun d => ?_
  refine at_w fun u hu => ?_
  have h14 : u.heap[w1.heap.size]? = some (.cells #[.int .i64 a, .int .i64 b, .int .i64 c] 182) := by rw [hu]; exact Ext.at (w := w2) ext_ (hE2.at (hA rfl))
  have h18 : u.heap[w2.heap.size]? = some (.cells #[.int .i64 0, .int .i64 0] 184) := by rw [hu]; exact hA rfl
  have hE12 : Ext w1 w2 := Ext.trans (by exact ext_) hE2
  have hE2u : Ext w2 u := by rw [hu]; exact ext_
  have hEu : Ext w u := (hE1.trans hE12).trans hE2u
  have hIu := h.ext hEu
  have z1 := hE1.size
  have z2 := (hE1.trans hE12).size
  have own0 : ∀ k, w.heap.size ≤ k → own k = 0 := fun k hk => by
    cases ho : own k with
    | zero => rfl
    | succ q => have := h.sti.lt k (by omega); omega
  obtain ⟨b14, hb14⟩ : ∃ b, w1.heap.size = b := ⟨_, rfl⟩
  obtain ⟨b18, hb18⟩ : ∃ b, w2.heap.size = b := ⟨_, rfl⟩
  rw [hb14] at h14 z1 ⊢
  rw [hb18] at h18 z2 ⊢
  have o14 := own0 _ z1
  have o18 := own0 _ z2
  have lbm := lt_of_heap hm
  have lpc := lt_of_heap hb
  have n14 : b14 ≠ bm := by omega
  have n18 : b18 ≠ bm := by omega
  have p18 : ¬ pc = b18 := by omega
  have m18 : ¬ bm = b18 := by omega
  have q18 : b14 ≠ b18 := fun e => by rw [e, h18] at h14; cases h14
  have l18 := lt_of_heap h18
  have sa : Quiet Try.prog 150 #[.pointer (some ⟨p, 0, none⟩), .int .i64 a, .int .i64 v, .int .i64 0] u (.int .i64 (s.side a v false)) := iteSide_calls hIu.sti G.wf a v ra false
  have sb : Quiet Try.prog 150 #[.pointer (some ⟨p, 0, none⟩), .int .i64 b, .int .i64 v, .int .i64 0] u (.int .i64 (s.side b v false)) := iteSide_calls hIu.sti G.wf b v rb false
  have sc : Quiet Try.prog 150 #[.pointer (some ⟨p, 0, none⟩), .int .i64 c, .int .i64 v, .int .i64 0] u (.int .i64 (s.side c v false)) := iteSide_calls hIu.sti G.wf c v rc false
  clear hu tp hE1 hE2 hs1 hs2 hb1 hm1 lb lm e1 g1 hE12 hE2u hb14 hb18 own0 hb hm h
  refine un_ 3 ?_
  refine w_ fun d => ?_
  refine qq sa fun w3 hE3 hs3 => ?_
  refine w_ fun d => ?_
  refine qq sb fun w4 hE4 hs4 => ?_
  refine w_ fun d => ?_
  refine qq sc fun w5 hE5 hs5 => ?_
  have hEu5 : Ext u w5 := (hE3.trans hE4).trans hE5
  refine w_ fun d => ?_
  refine (ih _ (Nat.lt_of_lt_of_le (hms false) hme) own w5 s es ck _ _ _ _ _ _ (hIu.ext hEu5) G fa fb fc (Nat.le_refl _)).mono ?_
  rintro r w6 ⟨hr, own1, es1, ck1, hI1, hS1⟩
  obtain ⟨o141, h146⟩ := hS1.out (hEu5.at h14) o14 n14
  obtain ⟨o181, h186⟩ := hS1.out (hEu5.at h18) o18 n18
  have hT6 := (BtS.of_ext (own := own) (bm := bm) (hEu.trans hEu5)).trans hS1
  have l186 := lt_of_heap h186
  rcases hsp with ⟨e0, eR⟩ | ⟨n0, s0, e0, G0, L0, D0, hsp⟩
  · rw [eR, e0]
    rw [e0] at hr
    dsimp only at hr
    subst hr
    rw [errV2]
    clear ih
    refine w_ fun d => ?_
    exact ⟨rfl, _, _, _, hI1, hT6⟩
  rw [e0] at hr hI1
  dsimp only at hr hI1
  subst hr
  rw [errV0]
  have hC7 : Chg (fun k => k = b18) w6 (upd w6 b18 (.cells #[.int .i64 n0, .int .i64 0] 184)) := chg_
  have hI7 := hI1.chg0 hC7 (fun k hk => hk ▸ o181) p18 m18
  have h147 := (hC7.heap _ (lt_of_heap h146) q18).trans h146
  have h187 : (upd w6 b18 (.cells #[.int .i64 n0, .int .i64 0] 184)).heap[b18]? = some (.cells #[.int .i64 n0, .int .i64 0] 184) := upd_same l186
  have hT7 := hT6.loc hC7 fun k hk => hk ▸ z2
  have ga := G0.side (da.mono L0) (fun u hu => by rw [L0.ord]; exact hd u (.inl hu)) hv true
  have gb := G0.side (db.mono L0) (fun u hu => by rw [L0.ord]; exact hd u (.inr (.inl hu))) hv true
  have gc := G0.side (dc.mono L0) (fun u hu => by rw [L0.ord]; exact hd u (.inr (.inr hu))) hv true
  have sa2 : Quiet Try.prog 150 #[.pointer (some ⟨p, 0, none⟩), .int .i64 a, .int .i64 v, .int .i64 1] _ (.int .i64 (s0.side a v true)) := iteSide_calls hI7.sti G0.wf a v ra true
  have sb2 : Quiet Try.prog 150 #[.pointer (some ⟨p, 0, none⟩), .int .i64 b, .int .i64 v, .int .i64 1] _ (.int .i64 (s0.side b v true)) := iteSide_calls hI7.sti G0.wf b v rb true
  have sc2 : Quiet Try.prog 150 #[.pointer (some ⟨p, 0, none⟩), .int .i64 c, .int .i64 v, .int .i64 1] _ (.int .i64 (s0.side c v true)) := iteSide_calls hI7.sti G0.wf c v rc true
  clear sa sb sc hI1 hS1 hC7 hT6 h14 h18 hIu hE3 hE4 hE5 hEu5 hs3 hs4 hs5 h146
  refine w_ fun d => ?_
  refine qq sa2 fun w7 hE7 hs7 => ?_
  refine w_ fun d => ?_
  refine qq sb2 fun w8 hE8 hs8 => ?_
  refine w_ fun d => ?_
  refine qq sc2 fun w9 hE9 hs9 => ?_
  have hE69 := (hE7.trans hE8).trans hE9
  refine w_ fun d => ?_
  refine (ih _ (Nat.lt_of_lt_of_le (hms true) hme) own1 w9 s0 es1 ck1 _ _ _ _ _ _ (hI7.ext hE69) G0 ga gb gc (Nat.le_refl _)).mono ?_
  rintro r wa ⟨hr, own2, es2, ck2, hI2, hS2⟩
  obtain ⟨o142, h14a⟩ := hS2.out (hE69.at h147) o141 n14
  obtain ⟨o182, h18a⟩ := hS2.out (hE69.at h187) o181 n18
  have hTa := (hT7.ext hE69).trans hS2
  have l18a := lt_of_heap h18a
  rcases hsp with ⟨e1, eR⟩ | ⟨n1, s1, e1, G1, L1, D1, hsp⟩
  · rw [eR, e1]
    rw [e1] at hr
    dsimp only at hr
    subst hr
    rw [errV2]
    clear ih
    refine w_ fun d => ?_
    exact ⟨rfl, _, _, _, hI2, hTa⟩
  rw [e1] at hr hI2
  dsimp only at hr hI2
  subst hr
  rw [errV0]
  have hCb : Chg (fun k => k = b18) wa (upd wa b18 (.cells #[.int .i64 n0, .int .i64 n1] 184)) := chg_
  have hIb := hI2.chg0 hCb (fun k hk => hk ▸ o182) p18 m18
  have h14b := (hCb.heap _ (lt_of_heap h14a) q18).trans h14a
  have h18b : (upd wa b18 (.cells #[.int .i64 n0, .int .i64 n1] 184)).heap[b18]? = some (.cells #[.int .i64 n0, .int .i64 n1] 184) := upd_same l18a
  have l18b := lt_of_heap h18b
  have hTb := hTa.loc hCb fun k hk => hk ▸ z2
  have mk := stMk_calls (v := v) hIb.sti G1 (bt_rng G1.wf (D0.mono L1)) (bt_rng G1.wf D1)
  rw [← hsp] at mk
  have hLR : s1.Le R.2 := by rw [hsp]; exact (G1.mks _ _ _).2.1
  have L01 := (L0.trans L1).trans hLR
  clear ih sa2 sb2 sc2 hI2 hS2 hCb hTa hI7 hT7 h147 h187 hE7 hE8 hE9 hE69 hs7 hs8 hs9 h14a h186 l186 hsp e0 e1
  refine w_ fun d => ?_
  refine mk.mono ?_
  rintro _ wc ⟨rfl, hTr⟩
  obtain ⟨own3, hI3, hS3⟩ := hIb.turn (fun n f d => d.mono hLR) hTr
  have hTc := hTb.trans hS3
  obtain ⟨o143, h14c⟩ := hS3.out h14b o142 n14
  have l14c := lt_of_heap h14c
  have hbc := hI3.hb
  have hmc := hI3.hm
  have lbc := lt_of_heap hbc
  have lmc := lt_of_heap hmc
  obtain ⟨⟨Rn, Re⟩, R2⟩ := R
  dsimp only at hI3 hLR L01 ⊢
  clear mk hTr hIb hTb hS3 h14b h18b l18b
  rcases hbl.res with ⟨e2, D2⟩ | ⟨e2, _⟩
  · dsimp only at e2 D2
    subst e2
    rw [errV0]
    have hput := hI3.put (da.mono L01) (db.mono L01) (dc.mono L01) D2
    have hTp : BtS own3 wc bm own3 (upd wc bm (mObj k3 (mput es2 (a, b, c) (.int .i64 Rn) ck2) (mclock es2 (a, b, c) ck2))) := ⟨fun _ _ => rfl, chg_⟩
    refine w_ fun d => ?_
    exact ⟨rfl, IcT.ext ⟨_, _, _, hput, hTc.trans hTp⟩ ext_⟩
  · cases e2
    rw [errV2]
    refine w_ fun d => ?_
    exact ⟨rfl, IcT.ext ⟨_, _, _, hI3, hTc⟩ ext_⟩
end Go.Proofs.Ytpeindhocndmnaa

namespace Go.Bx
open Go
set_option linter.unusedSimpArgs false
set_option linter.unusedVariables false
section
variable {ord : List Int} {l k ns ms : List Fun8} {f g : Fun8} {v : Int} {b : Bool}
theorem nodes_of : ∀ (n : Nat) {keys work : List Fun8}, wts work = n → Dfs ord l keys work → ∃ ns, IsNodes ord l ns ∧ ns.length ≤ keys.length + n := by
  intro n
  induction n using Nat.strongRecOn with
  | _ n ih =>
    intro keys work hn h
    rcases List.eq_nil_or_concat work with rfl | ⟨ws, f, rfl⟩
    · exact ⟨_, h.done, by omega⟩
    · rw [List.concat_eq_append] at h hn
      have hm := Dfs.meas (ord := ord) (f := f) (ws := ws)
      by_cases hk : f ∈ keys ∨ supF f = 0
      · obtain ⟨ns, h1, h2⟩ := ih _ (by omega) rfl (h.skip hk)
        exact ⟨ns, h1, by omega⟩
      · obtain ⟨ns, h1, h2⟩ := ih _ (by omega) rfl (h.go (fun h => hk (.inl h)) (fun h => hk (.inr h)))
        rw [List.length_append, List.length_singleton] at h2
        exact ⟨ns, h1, by omega⟩
theorem nodes_ex (ord : List Int) (l : List Fun8) : ∃ ns, IsNodes ord l ns := by
  obtain ⟨ns, h, _⟩ := nodes_of (ord := ord) (l := l) _ rfl Dfs.init
  exact ⟨ns, h⟩
theorem Rch.mono (h : Rch ord l f) (hl : ∀ g ∈ l, Rch ord k g) : Rch ord k f := by
  induction h with
  | base h => exact hl _ h
  | step _ h ih => exact .step ih h
theorem Rch.sub (h : Rch ord l f) (hl : ∀ g ∈ l, g ∈ k) : Rch ord k f := h.mono fun g hg => .base (hl g hg)
theorem rch_app : Rch ord (l ++ k) f ↔ Rch ord l f ∨ Rch ord k f := by
  constructor
  · intro h
    induction h with
    | base h => exact (List.mem_append.1 h).imp .base .base
    | step _ h ih => exact ih.imp (fun i => .step i h) (fun i => .step i h)
  · rintro (h | h)
    · exact h.sub fun g hg => by simp [hg]
    · exact h.sub fun g hg => by simp [hg]
theorem size_app : sizeF ord (l ++ k) ≤ sizeF ord l + sizeF ord k := by
  obtain ⟨ns, hn⟩ := nodes_ex ord l
  obtain ⟨ms, hm⟩ := nodes_ex ord k
  obtain ⟨os, ho⟩ := nodes_ex ord (l ++ k)
  rw [← hn.size, ← hm.size, ← ho.size, ← List.length_append]
  refine sub_len ho.nodup fun f hf => ?_
  obtain ⟨h1, h2⟩ := (ho.mem f).1 hf
  rw [List.mem_append]
  exact (rch_app.1 h1).imp (fun h => (hn.mem f).2 ⟨h, h2⟩) (fun h => (hm.mem f).2 ⟨h, h2⟩)
theorem dep_set {n : Nat} (hn : n < 8) (h : depF f n = false) {x : Nat} (hx : x < 256) : f.getLsbD x = f.getLsbD (setB x n b) := by
  have he : cofF f n false = cofF f n true := by rw [depF_def] at h; simpa using h
  have e0 := cofF_bit (f := f) (b := false) hn hx
  have e1 := cofF_bit (f := f) (b := true) hn hx
  rw [he, e1] at e0
  have hs := setB_self_all n hn x hx
  cases ht : x.testBit n <;> rw [ht] at hs <;> cases b
  · rw [hs]
  · rw [e0, hs]
  · rw [← e0, hs]
  · rw [hs]
theorem cof_same (h : depF f v = false) : cofF f v b = f := by
  by_cases hv : 0 ≤ v ∧ v < 8
  · obtain ⟨n, rfl, hn⟩ := nat8 hv
    exact cof_ext fun x hx => by rw [cofF_bit hn hx, ← dep_set hn h hx]
  · exact cofF_out hv
theorem cof_constS {c : Bool} : cofF (constF b) v c = constF b := by
  by_cases hv : 0 ≤ v ∧ v < 8
  · obtain ⟨n, rfl, hn⟩ := nat8 hv
    exact cof_ext fun x hx => by rw [cofF_bit hn hx, bt_const hx, bt_const (setB_lt hx hn)]
  · exact cofF_out hv
theorem sup_constF : supF (constF b) = 0 := supF_zero.2 fun v => by rw [depF_def, cof_constS, cof_constS]; simp
theorem size_zero : sizeF ord [f] = 0 ↔ supF f = 0 := by
  obtain ⟨ns, hn⟩ := nodes_ex ord [f]
  rw [← hn.size]
  constructor
  · intro h
    by_cases hs : supF f = 0
    · exact hs
    · have := (hn.mem f).2 ⟨.base (by simp), hs⟩
      rw [List.eq_nil_of_length_eq_zero h] at this; cases this
  · intro hs
    have key : ∀ g, Rch ord [f] g → g = f := fun g hg => by
      induction hg with
      | base h => simpa using h
      | step _ h ih => subst ih; rw [kids_flat hs] at h; cases h
    cases ns with
    | nil => rfl
    | cons g ns =>
      have := (hn.mem g).1 (by simp)
      rw [key g this.1] at this
      exact absurd hs this.2
theorem nv_rch (h : Rch ord (kids ord f) g) : nv g < nv f := by
  have key : ∀ {a c : Fun8}, c ∈ kids ord a → nv c < nv a := fun {a c} hc => by
    unfold kids at hc
    split at hc
    · rename_i ht
      have hd := topF_dep ht
      simp only [List.mem_cons, List.not_mem_nil, or_false] at hc
      rcases hc with rfl | rfl <;> exact nv_cof hd
    · cases hc
  induction h with
  | base h => exact key h
  | step _ h ih => exact Nat.lt_trans (key h) ih
theorem size_sides (h : 0 ≤ topF ord f) : sizeF ord [f] = sizeF ord (kids ord f) + 1 := by
  obtain ⟨ns, hn⟩ := nodes_ex ord [f]
  have hs : supF f ≠ 0 := fun hs => by
    have := supF_zero.1 hs (topF ord f)
    rw [topF_dep h] at this; cases this
  have hf : f ∈ ns := (hn.mem f).2 ⟨.base (by simp), hs⟩
  have hr : ∀ g, Rch ord [f] g ↔ g = f ∨ Rch ord (kids ord f) g := fun g => by
    constructor
    · intro hg
      induction hg with
      | base h => exact .inl (by simpa using h)
      | step _ hk ih =>
        rcases ih with rfl | ih
        · exact .inr (.base hk)
        · exact .inr (.step ih hk)
    · rintro (rfl | hg)
      · exact .base (by simp)
      · exact hg.mono fun c hc => .step (.base (by simp)) hc
  have hI : IsNodes ord (kids ord f) (ns.erase f) := by
    refine ⟨hn.nodup.erase f, fun g => ?_⟩
    rw [hn.nodup.mem_erase_iff, hn.mem, hr]
    constructor
    · rintro ⟨h1, h2, h3⟩
      exact ⟨h2.resolve_left h1, h3⟩
    · rintro ⟨h1, h2⟩
      exact ⟨fun e => by subst e; have := nv_rch h1; omega, .inr h1, h2⟩
  rw [← hn.size, ← hI.size, List.length_erase_of_mem hf]
  have := List.length_pos_of_mem hf
  omega
end
end Go.Bx

namespace Go.Bx
open Go
set_option linter.unusedSimpArgs false
set_option linter.unusedVariables false
structure AllOnce (ord : List Int) : Prop where
  len : ord.length = 8
  all : ∀ v : Nat, v < 8 → ∃ j, j < 8 ∧ ord[j]? = some (v : Int)
  rng : ∀ j : Nat, j < 8 → ∃ v : Nat, v < 8 ∧ ord[j]? = some (v : Int)
  once : ∀ (i j : Nat) (v : Int), ord[i]? = some v → ord[j]? = some v → i = j
section
variable {ord : List Int} {f g : Fun8} {v : Int} {b : Bool} {i j : Nat}
def ov (ord : List Int) (j : Nat) : Int := ord.getD j 0
def lev (ord : List Int) (f : Fun8) : Nat → List Fun8
  | 0 => [f]
  | j + 1 => (lev ord f j).flatMap fun g => [cofF g (ov ord j) false, cofF g (ov ord j) true]
theorem lev_len : ∀ j, (lev ord f j).length = 2 ^ j
  | 0 => rfl
  | j + 1 => by
    have key : ∀ l : List Fun8, (l.flatMap fun g => [cofF g (ov ord j) false, cofF g (ov ord j) true]).length = l.length * 2 := fun l => by
      induction l with
      | nil => rfl
      | cons a l ih => rw [List.flatMap_cons, List.length_append, ih]; simp; omega
    rw [lev, key, lev_len j, Nat.pow_succ]
theorem lev_dep : ∀ {j : Nat} {g : Fun8}, g ∈ lev ord f j → ∀ i, i < j → depF g (ov ord i) = false
  | 0, _, _, i, hi => by omega
  | j + 1, g, hg, i, hi => by
    rw [lev, List.mem_flatMap] at hg
    obtain ⟨h, hh, hg⟩ := hg
    simp only [List.mem_cons, List.not_mem_nil, or_false] at hg
    by_cases e : i = j
    · subst e
      rcases hg with rfl | rfl <;> exact dep_cof
    · have := lev_dep hh i (by omega)
      rcases hg with rfl | rfl
      · cases hd : depF (cofF h (ov ord j) false) (ov ord i)
        · rfl
        · rw [dep_of_cof hd] at this; cases this
      · cases hd : depF (cofF h (ov ord j) true) (ov ord i)
        · rfl
        · rw [dep_of_cof hd] at this; cases this
theorem lev_stay (h : g ∈ lev ord f j) (hd : depF g (ov ord j) = false) : g ∈ lev ord f (j + 1) := by
  rw [lev, List.mem_flatMap]
  exact ⟨g, h, by rw [cof_same hd]; simp⟩
theorem lev_up (h : g ∈ lev ord f j) : ∀ k, (∀ i, j ≤ i → i < j + k → depF g (ov ord i) = false) → g ∈ lev ord f (j + k)
  | 0, _ => h
  | k + 1, hd => lev_stay (lev_up h k fun i h1 h2 => hd i h1 (by omega)) (hd (j + k) (by omega) (by omega))
theorem find_first {p : Int → Bool} : ∀ {l : List Int} {x : Int}, l.find? p = some x → ∃ i : Nat, l[i]? = some x ∧ ∀ (k : Nat) (y : Int), k < i → l[k]? = some y → p y = false
  | [], _, h => by cases h
  | a :: l, x, h => by
    cases ha : p a
    · rw [List.find?_cons_of_neg (by simp [ha])] at h
      obtain ⟨i, h1, h2⟩ := find_first h
      refine ⟨i + 1, by simpa using h1, fun k y hk hy => ?_⟩
      cases k with
      | zero => simp at hy; subst hy; exact ha
      | succ k => exact h2 k y (by omega) (by simpa using hy)
    · rw [List.find?_cons_of_pos ha] at h
      cases h
      exact ⟨0, rfl, fun k y hk => by omega⟩
theorem top_at (h : 0 ≤ topF ord f) : ∃ i, ord[i]? = some (topF ord f) ∧ ∀ k, k < i → depF f (ov ord k) = false := by
  unfold topF at h ⊢
  cases hf : ord.find? (depF f) with
  | none => rw [hf] at h; simp at h
  | some x =>
    obtain ⟨i, h1, h2⟩ := find_first hf
    refine ⟨i, h1, fun k hk => ?_⟩
    have hi := (List.getElem?_eq_some_iff.1 h1).1
    have hkl : k < ord.length := by omega
    refine h2 k _ hk ?_
    rw [ov, List.getD_eq_getElem?_getD, List.getElem?_eq_getElem hkl]; rfl
theorem rch_lev (ho : ord.length = 8) (h : Rch ord [f] g) : ∃ j, j ≤ 8 ∧ g ∈ lev ord f j := by
  induction h with
  | base h => rw [List.mem_singleton] at h; subst h; exact ⟨0, by omega, by simp [lev]⟩
  | @step g g' _ hk ih =>
    obtain ⟨j, hj, hg⟩ := ih
    unfold kids at hk
    split at hk
    · rename_i ht
      obtain ⟨i, hi, hd⟩ := top_at ht
      have hil := (List.getElem?_eq_some_iff.1 hi).1
      have hov : ov ord i = topF ord g := by rw [ov, List.getD_eq_getElem?_getD, hi]; rfl
      have hji : j ≤ i := by
        refine Nat.le_of_not_lt fun hl => ?_
        have := lev_dep hg i hl
        rw [hov, topF_dep ht] at this; cases this
      have hgi : g ∈ lev ord f i := by
        have := lev_up hg (i - j) fun k h1 h2 => hd k (by omega)
        rwa [show j + (i - j) = i by omega] at this
      refine ⟨i + 1, by omega, ?_⟩
      rw [lev, List.mem_flatMap]
      exact ⟨g, hgi, by rw [hov]; exact hk⟩
    · cases hk
def rep (p q : Nat) (a b : Bool) : Nat := (if a then 2 ^ p else 0) + (if b then 2 ^ q else 0)
theorem rep_all : ∀ p : Nat, p < 8 → ∀ q : Nat, q < 8 → p ≠ q → ∀ a b : Bool, rep p q a b < 256 ∧ (rep p q a b).testBit p = a ∧ (rep p q a b).testBit q = b := by decide +kernel
def tblF (p q : Nat) (n : Nat) : Fun8 := ofRows fun x => n.testBit ((x.testBit p).toNat + 2 * (x.testBit q).toNat)
theorem bits_ext {x y : Nat} (hx : x < 256) (hy : y < 256) (h : ∀ v, v < 8 → x.testBit v = y.testBit v) : x = y := by
  refine Nat.eq_of_testBit_eq fun i => ?_
  by_cases hi : i < 8
  · exact h i hi
  · have hp : 256 ≤ 2 ^ i := by
      have : 2 ^ 8 ≤ 2 ^ i := Nat.pow_le_pow_right (by decide) (by omega)
      exact this
    rw [Nat.testBit_lt_two_pow (by omega), Nat.testBit_lt_two_pow (by omega)]
theorem dep_agree {x y : Nat} (hx : x < 256) (hy : y < 256) (h : ∀ v : Nat, v < 8 → depF f v = true → x.testBit v = y.testBit v) : f.getLsbD x = f.getLsbD y := by
  have key : ∀ k : Nat, k ≤ 8 → ∃ z, z < 256 ∧ f.getLsbD z = f.getLsbD x ∧ (∀ v, v < k → z.testBit v = y.testBit v) ∧ ∀ v, k ≤ v → v < 8 → z.testBit v = x.testBit v := by
    intro k
    induction k with
    | zero => intro _; exact ⟨x, hx, rfl, fun v hv => by omega, fun v _ _ => rfl⟩
    | succ k ih =>
      intro hk
      obtain ⟨z, hz, h1, h2, h3⟩ := ih (by omega)
      cases hd : depF f k
      · refine ⟨setB z k (y.testBit k), setB_lt hz (by omega), by rw [← dep_set (by omega) hd hz, h1], fun v hv => ?_, fun v hv hv8 => ?_⟩
        · by_cases e : v = k
          · subst e; exact setB_bit_all v (by omega) z hz _
          · rw [setB_other_all k (by omega) v (by omega) (Ne.symm e) z hz]; exact h2 v (by omega)
        · rw [setB_other_all k (by omega) v hv8 (by omega) z hz]; exact h3 v (by omega) hv8
      · refine ⟨z, hz, h1, fun v hv => ?_, fun v hv hv8 => h3 v (by omega) hv8⟩
        by_cases e : v = k
        · subst e; rw [h3 v (Nat.le_refl _) (by omega)]; exact h v (by omega) hd
        · exact h2 v (by omega)
  obtain ⟨z, hz, h1, h2, _⟩ := key 8 (by omega)
  rw [← h1, bits_ext hz hy h2]
theorem tbl_bits : ∀ c0 c1 c2 c3 : Bool, ∀ a b : Bool, (c0.toNat + 2 * c1.toNat + 4 * c2.toNat + 8 * c3.toNat).testBit (a.toNat + 2 * b.toNat) = (if a then (if b then c3 else c1) else (if b then c2 else c0)) := by decide
theorem two_var {p q : Nat} (hp : p < 8) (hq : q < 8) (hne : p ≠ q) (h : ∀ v : Nat, v < 8 → v ≠ p → v ≠ q → depF f v = false) (hs : supF f ≠ 0) : ∃ n, 1 ≤ n ∧ n ≤ 14 ∧ f = tblF p q n := by
  have hr := rep_all p hp q hq hne
  have hbit : ∀ x, x < 256 → f.getLsbD x = f.getLsbD (rep p q (x.testBit p) (x.testBit q)) := fun x hx => by
    have := hr (x.testBit p) (x.testBit q)
    refine dep_agree hx this.1 fun v hv hd => ?_
    by_cases e1 : v = p
    · subst e1; exact this.2.1.symm
    · by_cases e2 : v = q
      · subst e2; exact this.2.2.symm
      · rw [h v hv e1 e2] at hd; cases hd
  generalize hc0 : f.getLsbD (rep p q false false) = c0
  generalize hc1 : f.getLsbD (rep p q true false) = c1
  generalize hc2 : f.getLsbD (rep p q false true) = c2
  generalize hc3 : f.getLsbD (rep p q true true) = c3
  have he : f = tblF p q (c0.toNat + 2 * c1.toNat + 4 * c2.toNat + 8 * c3.toNat) := by
    refine cof_ext fun x hx => ?_
    rw [tblF, bt_rows hx, tbl_bits, hbit x hx]
    cases x.testBit p <;> cases x.testBit q <;> simp [hc0, hc1, hc2, hc3]
  refine ⟨_, ?_, ?_, he⟩
  · refine Nat.pos_of_ne_zero fun h0 => hs ?_
    rw [h0] at he
    have : f = constF false := by rw [he]; refine cof_ext fun x hx => ?_; rw [tblF, bt_rows hx, bt_const hx]; simp
    rw [this]; exact sup_constF
  · refine Nat.le_of_not_lt fun h0 => hs ?_
    have h15 : c0.toNat + 2 * c1.toNat + 4 * c2.toNat + 8 * c3.toNat = 15 := by
      exact (by decide : ∀ c0 c1 c2 c3 : Bool, 14 < c0.toNat + 2 * c1.toNat + 4 * c2.toNat + 8 * c3.toNat → c0.toNat + 2 * c1.toNat + 4 * c2.toNat + 8 * c3.toNat = 15) c0 c1 c2 c3 h0
    rw [h15] at he
    have : f = constF true := by
      rw [he]; refine cof_ext fun x hx => ?_; rw [tblF, bt_rows hx, bt_const hx]
      cases x.testBit p <;> cases x.testBit q <;> decide
    rw [this]; exact sup_constF
theorem size_77 (ho : AllOnce ord) : sizeF ord [f] ≤ 77 := by
  obtain ⟨ns, hn⟩ := nodes_ex ord [f]
  obtain ⟨p, hp, hp'⟩ := ho.rng 6 (by decide)
  obtain ⟨q, hq, hq'⟩ := ho.rng 7 (by decide)
  have hne : p ≠ q := fun e => by
    subst e
    exact absurd (ho.once 6 7 _ hp' hq') (by decide)
  rw [← hn.size]
  have hlen : (lev ord f 0 ++ (lev ord f 1 ++ (lev ord f 2 ++ (lev ord f 3 ++ (lev ord f 4 ++ (lev ord f 5 ++ (List.range 14).map fun n => tblF p q (n + 1))))))).length = 77 := by
    simp only [List.length_append, lev_len, List.length_map, List.length_range]
  rw [← hlen]
  refine sub_len hn.nodup fun g hg => ?_
  obtain ⟨h1, h2⟩ := (hn.mem g).1 hg
  obtain ⟨j, hj, hl⟩ := rch_lev ho.len h1
  simp only [List.mem_append]
  by_cases h6 : j ≤ 5
  · rcases (by omega : j = 0 ∨ j = 1 ∨ j = 2 ∨ j = 3 ∨ j = 4 ∨ j = 5) with rfl | rfl | rfl | rfl | rfl | rfl
    · exact .inl hl
    · exact .inr (.inl hl)
    · exact .inr (.inr (.inl hl))
    · exact .inr (.inr (.inr (.inl hl)))
    · exact .inr (.inr (.inr (.inr (.inl hl))))
    · exact .inr (.inr (.inr (.inr (.inr (.inl hl)))))
  · have hd := lev_dep hl
    obtain ⟨n, n1, n2, hgn⟩ := two_var hp hq hne (f := g) (fun v hv e1 e2 => by
      obtain ⟨i, hi, hiv⟩ := ho.all v hv
      have hov : ov ord i = v := by rw [ov, List.getD_eq_getElem?_getD, hiv]; rfl
      have : i < 6 := by
        rcases (by omega : i < 6 ∨ i = 6 ∨ i = 7) with h | rfl | rfl
        · exact h
        · rw [hp'] at hiv; injection hiv with h; omega
        · rw [hq'] at hiv; injection hiv with h; omega
      rw [← hov]; exact hd i (by omega)) h2
    refine .inr (.inr (.inr (.inr (.inr (.inr ?_)))))
    exact List.mem_map.2 ⟨n - 1, List.mem_range.2 (by omega), by rw [hgn]; congr 1; omega⟩
theorem top_none_iff (ho : AllOnce ord) : topF ord f = -1 ↔ supF f = 0 := by
  constructor
  · intro h
    refine supF_zero.2 fun v => ?_
    by_cases hv : 0 ≤ v ∧ v < 8
    · obtain ⟨n, rfl, hn⟩ := nat8 hv
      obtain ⟨j, _, hj⟩ := ho.all n hn
      exact (topF_none (ord := ord) (f := f) (by omega)).1 _ (List.mem_of_getElem? hj)
    · exact depF_out hv
  · intro h
    by_cases ht : 0 ≤ topF ord f
    · have := supF_zero.1 h (topF ord f)
      rw [topF_dep ht] at this; cases this
    · exact (topF_none ht).2
def mayF (ord : List Int) : Bool := (List.range 8).all fun v => ord.count (v : Int) == 1
end
end Go.Bx

namespace Go.Bx
open Go
set_option linter.unusedSimpArgs false
set_option linter.unusedVariables false
section
variable {s s' : Md} {n m v lo hi : Int} {f g h : Fun8} {L K : List Fun8}
theorem OrdOK.once {ord : List Int} (O : OrdOK ord) : AllOnce ord := by
  refine ⟨O.len, fun v hv => ?_, fun j hj => ?_, O.one⟩
  · obtain ⟨k, hk, he⟩ := O.all v (by omega) (by omega)
    exact ⟨k, hk, he⟩
  · have hl := O.len
    obtain ⟨x, hx⟩ : ∃ x, ord[j]? = some x := ⟨ord[j], List.getElem?_eq_getElem (by omega)⟩
    have h := O.rng j x hx
    exact ⟨x.toNat, by omega, by rw [hx]; congr 1; omega⟩
open Classical in
noncomputable def Md.tab (s : Md) (n : Int) : Fun8 := if h : ∃ f, Den s n f then Classical.choose h else constF false
theorem Md.tab_den (d : Den s n f) : s.tab n = f := by
  have h : ∃ f, Den s n f := ⟨f, d⟩
  unfold Md.tab
  rw [dif_pos h]
  exact (Classical.choose_spec h).fn d
def Md.Full (s : Md) (L : List Fun8) : Prop := ∀ n f, s.has n = true → Den s n f → Rch s.ord L f
theorem Md.Full.sub (h : s.Full L) (hl : ∀ f ∈ L, f ∈ K) : s.Full K := fun n f hn d => (h n f hn d).sub hl
theorem node_sup (G : s.Good []) (hn : s.has n = true) (d : Den s n f) : supF f ≠ 0 := fun e => by
  have := G.top hn d
  rw [supF_zero.1 e] at this; cases this
theorem map_nodup {α β : Type} {q : α → β} : ∀ {l : List α}, l.Nodup → (∀ x ∈ l, ∀ y ∈ l, q x = q y → x = y) → (l.map q).Nodup
  | [], _, _ => List.nodup_nil
  | a :: l, hn, hi => by
    have hn' := List.nodup_cons.1 hn
    rw [List.map_cons, List.nodup_cons]
    refine ⟨fun hm => ?_, map_nodup hn'.2 fun x hx y hy => hi x (by simp [hx]) y (by simp [hy])⟩
    obtain ⟨y, hy, he⟩ := List.mem_map.1 hm
    have := hi y (by simp [hy]) a (by simp) he
    subst this; exact hn'.1 hy
theorem Md.Good.tabs (G : s.Good []) : (s.all.map s.tab).Nodup ∧ ∀ f, f ∈ s.all.map s.tab ↔ ∃ n, s.has n = true ∧ Den s n f := by
  have td : ∀ n, s.has n = true → Den s n (s.tab n) := fun n hn => by
    obtain ⟨f, d⟩ := G.has_den (.inr (.inr hn))
    rw [Md.tab_den d]; exact d
  refine ⟨map_nodup Md.nodup_all fun x hx y hy he => ?_, fun f => ?_⟩
  · have dx := td x (G.wf.mem_all.1 hx)
    have dy := td y (G.wf.mem_all.1 hy)
    rw [← he] at dy
    exact G.canon dx dy
  · rw [List.mem_map]
    constructor
    · rintro ⟨n, hn, rfl⟩
      exact ⟨n, G.wf.mem_all.1 hn, td n (G.wf.mem_all.1 hn)⟩
    · rintro ⟨n, hn, d⟩
      exact ⟨n, G.wf.mem_all.2 hn, Md.tab_den d⟩
theorem Md.Full.less (G : s.Good []) (hF : s.Full L) (hg : Rch s.ord L g) (hs : supF g ≠ 0) (hno : ∀ n, ¬ Den s n g) : s.a.many < sizeF s.ord L := by
  obtain ⟨ns, hns⟩ := nodes_ex s.ord L
  have t := G.tabs
  have := sub_len (l := g :: s.all.map s.tab) (List.nodup_cons.2 ⟨fun hm => by obtain ⟨n, _, d⟩ := (t.2 g).1 hm; exact hno n d, t.1⟩) (m := ns) fun f hf => by
    rcases List.mem_cons.1 hf with rfl | hf
    · exact (hns.mem f).2 ⟨hg, hs⟩
    · obtain ⟨n, hn, d⟩ := (t.2 f).1 hf
      exact (hns.mem f).2 ⟨hF n f hn d, node_sup G hn d⟩
  rw [List.length_cons, List.length_map, hns.size] at this
  have := G.wf.len_all
  omega
theorem Md.Full.mk (G : s.Good []) (hF : s.Full L) (hv : 0 ≤ v ∧ v < 8) (h0 : s.below lo v = true) (h1 : s.below hi v = true) (d0 : Den s lo (cofF f v false)) (d1 : Den s hi (cofF f v true)) (hf : Rch s.ord L f) : (s.mk' [] v lo hi).2.Full L := by
  obtain ⟨G2, l2, _⟩ := G.mks v lo hi
  rcases G.mk_err hv h0 h1 with e | ⟨_, e, _⟩
  · obtain ⟨_, hh, hdn⟩ := G.made hv h0 h1 rfl e
    have dn := hdn _ _ d0 d1
    rw [ite_cof] at dn
    intro n f' hn d
    rw [l2.ord]
    rcases hh n hn with h | ⟨rfl, _⟩
    · obtain ⟨f2, d2⟩ := G.has_den (.inr (.inr h))
      rw [d.fn (d2.mono l2)]
      exact hF n f2 h d2
    · rw [d.fn dn]; exact hf
  · rw [e]; exact hF
theorem bld_flat (G : s.Good []) (ht : ¬ 0 ≤ topF s.ord f) : s.bld f = ((if f.getLsbD 0 then 1 else 0, 0), s) := by
  refine G.bld_ex ?_
  have hf := top_flat G.wf.ord (f := f) (by omega)
  have := den_const (s := s) (f.getLsbD 0)
  rwa [← hf] at this
theorem bld_full : ∀ (k : Nat) (s : Md) (f : Fun8), s.Good [] → nv f ≤ k → s.Full L → Rch s.ord L f → (s.bld f).2.Full L ∧ ((s.bld f).1.2 ≠ 0 → s.a.most < sizeF s.ord L) := by
  intro k
  induction k with
  | zero =>
    intro s f G hk hF hr
    have ht : ¬ 0 ≤ topF s.ord f := fun h => by have := nv_cof (b := false) (topF_dep h); omega
    rw [bld_flat G ht]
    exact ⟨hF, fun h => absurd rfl h⟩
  | succ k ih =>
    intro s f G hk hF hr
    by_cases ht : 0 ≤ topF s.ord f
    rotate_left
    · rw [bld_flat G ht]
      exact ⟨hF, fun h => absurd rfl h⟩
    have hd := topF_dep ht
    have hsp := bld_top G ht
    have hrt := top_rng ht
    have hbe := fun b u hu => cof_behind (f := f) (b := b) (u := u) G.wf.ord ht hu
    have n0 := nv_cof (b := false) hd
    have n1 := nv_cof (b := true) hd
    have r0 : Rch s.ord L (cofF f (topF s.ord f) false) := .step hr (by unfold kids; rw [if_pos ht]; simp)
    have r1 : Rch s.ord L (cofF f (topF s.ord f) true) := .step hr (by unfold kids; rw [if_pos ht]; simp)
    generalize topF s.ord f = v at hd hsp hrt hbe n0 n1 r0 r1
    obtain ⟨F0, E0⟩ := ih s (cofF f v false) G (by omega) hF r0
    rcases hsp with ⟨e0, eR⟩ | ⟨a, s0, e0, G0, L0, D0, hsp⟩
    · rw [eR]; exact ⟨F0, E0⟩
    rw [e0] at F0
    obtain ⟨F1, E1⟩ := ih s0 (cofF f v true) G0 (by omega) F0 (by rw [L0.ord]; exact r1)
    rw [L0.ord, L0.most] at E1
    rcases hsp with ⟨e1, eR⟩ | ⟨b, s1, e1, G1, L1, D1, eR⟩
    · rw [eR]; exact ⟨F1, E1⟩
    rw [e1] at F1
    dsimp only at F1
    have o1 : s1.ord = s.ord := (L0.trans L1).ord
    have b0 : s1.below a v = true := G1.belowF (D0.mono L1) fun u hu => by rw [o1]; exact hbe false u hu
    have b1 : s1.below b v = true := G1.belowF D1 fun u hu => by rw [o1]; exact hbe true u hu
    rw [eR]
    refine ⟨F1.mk G1 hrt b0 b1 (D0.mono L1) D1 (by rw [o1]; exact hr), fun he => ?_⟩
    rcases G1.mk_err hrt b0 b1 with e | ⟨_, _, hm⟩
    · exact absurd e he
    have hno : ∀ n, ¬ Den s1 n f := fun n d => by
      have ⟨hn, hl⟩ := G1.dep d hd
      have h2 : lvl s1.ord v ≤ lvl s1.ord (s1.nd n).1 := by
        have hdn := G1.top hn d
        by_cases e : (s1.nd n).1 = v
        · rw [e]; exact Int.le_refl _
        · rw [o1]
          by_cases hc : depF (cofF f v false) (s1.nd n).1 = true
          · have := hbe false _ hc; omega
          · by_cases hc1 : depF (cofF f v true) (s1.nd n).1 = true
            · have := hbe true _ hc1; omega
            · exfalso
              have hf : f = iteF (varF v) (cofF f v true) (cofF f v false) := ite_cof.symm
              rw [hf] at hdn
              rcases dep_node hdn with h | h | h
              · exact e h
              · exact hc1 h
              · exact hc h
      have hv : (s1.nd n).1 = v := G1.wf.ord.inj (G1.node n hn (by simp)).var hrt (by omega)
      have ⟨d0, d1⟩ := G1.sides d hn
      rw [hv] at d0 d1
      have h3 := G1.mk_ex hn
      rw [hv, G1.canon d0 (D0.mono L1), G1.canon d1 D1] at h3
      rw [h3] at he
      exact he rfl
    have := F1.less G1 (by rw [o1]; exact hr) (fun e => by rw [supF_zero.1 e] at hd; cases hd) hno
    rw [o1] at this
    rw [hm, (L0.trans L1).most] at this
    exact this
theorem Md.Good.bld_app (G : s.Good []) (hF : s.Full L) (f : Fun8) : (s.bld f).2.Full (L ++ [f]) := (bld_full (L := L ++ [f]) 8 s f G nv_le (hF.sub fun g hg => by simp [hg]) (.base (by simp))).1
theorem Md.Good.bld_ok (G : s.Good []) (hF : s.Full L) (f : Fun8) (hr : sizeF s.ord (L ++ [f]) ≤ s.a.most) : (s.bld f).1.2 = 0 := by
  by_cases h : (s.bld f).1.2 = 0
  · exact h
  · have := (bld_full (L := L ++ [f]) 8 s f G nv_le (hF.sub fun g hg => by simp [hg]) (.base (by simp))).2 h
    omega
theorem size_77s (ho : AllOnce s.ord) : ∀ L : List Fun8, sizeF s.ord L ≤ 77 * L.length
  | [] => by
    have h : IsNodes s.ord ([] : List Fun8) [] := ⟨List.nodup_nil, fun f => ⟨fun h => (by cases h), fun h => by
      exfalso
      obtain ⟨hr, hs⟩ := h
      clear hs
      induction hr with
      | base h => cases h
      | step _ _ ih => exact ih⟩⟩
    rw [← h.size]; simp
  | f :: L => by
    have h1 := size_77s ho L
    have h2 := size_77 (f := f) ho
    have h3 := size_app (ord := s.ord) (l := [f]) (k := L)
    rw [List.length_cons]
    have : [f] ++ L = f :: L := rfl
    rw [this] at h3
    omega
end
end Go.Bx

namespace Go.Bx
open Go
set_option linter.unusedSimpArgs false
set_option linter.unusedVariables false
def Md.there (s : Md) (n : Int) : Bool := decide (n = 0) || (decide (n = 1) || s.has n)
noncomputable def Md.ite (s : Md) (a b c : Int) : (Int × Int) × Md := if s.there a && (s.there b && s.there c) then s.bld (iteF (s.tab a) (s.tab b) (s.tab c)) else ((0, 1), s)
noncomputable def Md.xor (s : Md) (a b : Int) : (Int × Int) × Md := if s.there a && s.there b then (if (s.ite b 0 1).1.2 = 0 then (s.ite b 0 1).2.ite a (s.ite b 0 1).1.1 b else s.ite b 0 1) else ((0, 1), s)
section
variable {s s' : Md} {n m a b c : Int} {f g h : Fun8} {L : List Fun8}
theorem Den.isThere (d : Den s n f) : s.there n = true := by
  unfold Md.there
  rcases d.there with e | e | e
  · simp [e]
  · simp [e]
  · simp [e]
theorem Md.Good.there_den (G : s.Good []) (h : s.there n = true) : Den s n (s.tab n) := by
  obtain ⟨f, d⟩ := G.has_den (n := n) (by
    unfold Md.there at h
    simpa using h)
  rw [Md.tab_den d]; exact d
theorem ite_den (da : Den s a f) (db : Den s b g) (dc : Den s c h) : s.ite a b c = s.bld (iteF f g h) := by
  unfold Md.ite
  rw [da.isThere, db.isThere, dc.isThere, Md.tab_den da, Md.tab_den db, Md.tab_den dc]; rfl
theorem ite_no (h : (s.there a && (s.there b && s.there c)) = false) : s.ite a b c = ((0, 1), s) := by unfold Md.ite; rw [h]; rfl
structure Itt (s : Md) (r : (Int × Int) × Md) : Prop where
  good : r.2.Good []
  le : s.Le r.2
  err : r.1.2 = 0 ∨ r.1.2 = 1 ∨ r.1.2 = 2
  zero : r.1.2 ≠ 0 → r.1.1 = 0
  there : r.1.2 = 0 → r.2.there r.1.1 = true
theorem Blt.itt {r : (Int × Int) × Md} (b : Blt s f r) : Itt s r := by
  refine ⟨b.good, b.le, ?_, fun h => ?_, fun h => ?_⟩
  · rcases b.res with ⟨e, _⟩ | ⟨e, _⟩
    · exact .inl e
    · rw [e]; simp
  · rcases b.res with ⟨e, _⟩ | ⟨e, _⟩
    · exact absurd e h
    · rw [e]
  · rcases b.res with ⟨_, d⟩ | ⟨e, _⟩
    · exact d.isThere
    · rw [e] at h; cases h
end
end Go.Bx

namespace Go.Proofs.Ytpeindhocndmnaa
open Go Go.Bx
set_option linter.unusedSimpArgs false
set_option linter.unusedVariables false
set_option maxRecDepth 100000
set_option maxHeartbeats 4000000
attribute [local irreducible] X XO XE XF XD XW thenX inX retX kN CallsR
section
variable {own : Nat → Nat} {w : World} {p pc bm ck : Nat} {s : Md} {es : List (Ent (Int × Int × Int))} {a b c : Int}
theorem iteI_calls (h : IcI own w p s pc bm es ck) (G : s.Good []) (ha : a ≤ 9223372036854775807) (hb : b ≤ 9223372036854775807) (hc : c ≤ 9223372036854775807) :
    CallsR Try.prog 58 #[.pointer (some ⟨pc, 0, none⟩), .pointer (some ⟨p, 0, none⟩), .int .i64 a, .int .i64 b, .int .i64 c] w fun r w' => r = .tuple #[.int .i64 (s.ite a b c).1.1, errV (s.ite a b c).1.2] ∧ IcT own w p (s.ite a b c).2 pc bm w' := by
  have ta : Quiet Try.prog 112 #[.pointer (some ⟨p, 0, none⟩), .int .i64 a] w (.bool (s.there a)) := iteThere_calls h.sti G.wf a ha
  have tb : Quiet Try.prog 112 #[.pointer (some ⟨p, 0, none⟩), .int .i64 b] w (.bool (s.there b)) := iteThere_calls h.sti G.wf b hb
  have tc : Quiet Try.prog 112 #[.pointer (some ⟨p, 0, none⟩), .int .i64 c] w (.bool (s.there c)) := iteThere_calls h.sti G.wf c hc
  cases ea : s.there a
  · rw [ite_no (by rw [ea]; rfl), errV1]
    rw [ea] at ta
    clear tb tc ea G
    refine en5 Try.func58 Try.results58 mixed [] ?_
    intro e0 h0 h1 h2 h3 h4
    refine w_ fun d => ?_
    refine qq ta fun w1 hE1 hs1 => ?_
    refine w_ fun d => ?_
    exact ⟨rfl, IcT.of_ext h ext_⟩
  cases eb : s.there b
  · rw [ite_no (by rw [ea, eb]; rfl), errV1]
    rw [ea] at ta
    rw [eb] at tb
    clear tc ea eb G
    refine en5 Try.func58 Try.results58 mixed [] ?_
    intro e0 h0 h1 h2 h3 h4
    refine w_ fun d => ?_
    refine qq ta fun w1 hE1 hs1 => ?_
    refine w_ fun d => ?_
    refine qq tb fun w2 hE2 hs2 => ?_
    refine w_ fun d => ?_
    exact ⟨rfl, IcT.of_ext h ext_⟩
  cases ec : s.there c
  · rw [ite_no (by rw [ea, eb, ec]; rfl), errV1]
    rw [ea] at ta
    rw [eb] at tb
    rw [ec] at tc
    clear ea eb ec G
    refine en5 Try.func58 Try.results58 mixed [] ?_
    intro e0 h0 h1 h2 h3 h4
    refine w_ fun d => ?_
    refine qq ta fun w1 hE1 hs1 => ?_
    refine w_ fun d => ?_
    refine qq tb fun w2 hE2 hs2 => ?_
    refine w_ fun d => ?_
    refine qq tc fun w3 hE3 hs3 => ?_
    refine w_ fun d => ?_
    exact ⟨rfl, IcT.of_ext h ext_⟩
  have da := G.there_den ea
  have db := G.there_den eb
  have dc := G.there_den ec
  rw [ite_den da db dc]
  rw [ea] at ta
  rw [eb] at tb
  rw [ec] at tc
  have go := fun u (hu : Ext w u) => iteGo_calls _ own u s es ck a b c _ _ _ (h.ext hu) G da db dc (Nat.le_refl _)
  generalize s.bld (iteF (s.tab a) (s.tab b) (s.tab c)) = R at go
  clear ea eb ec G da db dc
  refine en5 Try.func58 Try.results58 mixed [] ?_
  intro e0 h0 h1 h2 h3 h4
  refine w_ fun d => ?_
  refine qq ta fun w1 hE1 hs1 => ?_
  refine w_ fun d => ?_
  refine qq tb fun w2 hE2 hs2 => ?_
  refine w_ fun d => ?_
  refine qq tc fun w3 hE3 hs3 => ?_
  have hE := (hE1.trans hE2).trans hE3
  refine w_ fun d => ?_
  refine (go w3 hE).mono ?_
  rintro _ w4 ⟨rfl, hT⟩
  have hT' := IcT.trans (BtS.of_ext hE) hT
  refine w_ fun d => ?_
  exact ⟨rfl, hT'.ext ext_⟩
theorem operAnd_calls (h : IcI own w p s pc bm es ck) (G : s.Good []) (ha : a ≤ 9223372036854775807) (hb : b ≤ 9223372036854775807) :
    CallsR Try.prog 35 #[.pointer (some ⟨p, 0, none⟩), .pointer (some ⟨pc, 0, none⟩), .int .i64 a, .int .i64 b] w fun r w' => r = .tuple #[.int .i64 (s.ite a b 0).1.1, errV (s.ite a b 0).1.2] ∧ IcT own w p (s.ite a b 0).2 pc bm w' := by
  have go := iteI_calls (c := 0) h G ha hb (by decide)
  generalize s.ite a b 0 = R at go
  clear h G
  refine en4 Try.func35 Try.results35 mixed [] ?_
  intro e0 h0 h1 h2 h3
  refine w_ fun d => ?_
  refine go.mono ?_
  rintro _ w4 ⟨rfl, hT⟩
  refine w_ fun d => ?_
  exact ⟨rfl, hT.ext ext_⟩
theorem operOr_calls (h : IcI own w p s pc bm es ck) (G : s.Good []) (ha : a ≤ 9223372036854775807) (hb : b ≤ 9223372036854775807) :
    CallsR Try.prog 36 #[.pointer (some ⟨p, 0, none⟩), .pointer (some ⟨pc, 0, none⟩), .int .i64 a, .int .i64 b] w fun r w' => r = .tuple #[.int .i64 (s.ite a 1 b).1.1, errV (s.ite a 1 b).1.2] ∧ IcT own w p (s.ite a 1 b).2 pc bm w' := by
  have go := iteI_calls (b := 1) (c := b) h G ha (by decide) hb
  generalize s.ite a 1 b = R at go
  clear h G
  refine en4 Try.func36 Try.results36 mixed [] ?_
  intro e0 h0 h1 h2 h3
  refine w_ fun d => ?_
  refine go.mono ?_
  rintro _ w4 ⟨rfl, hT⟩
  refine w_ fun d => ?_
  exact ⟨rfl, hT.ext ext_⟩
theorem there_rng (W : s.WF) (h : s.there a = true) : a ≤ 9223372036854775807 := by
  have := wf_N W
  unfold Md.there at h
  simp only [Bool.or_eq_true, decide_eq_true_eq] at h
  rcases h with e | e | e
  · omega
  · omega
  · have := W.lt e; omega
end
end Go.Proofs.Ytpeindhocndmnaa

namespace Go.Bx
open Go
set_option linter.unusedSimpArgs false
set_option linter.unusedVariables false
section
variable {s s' : Md} {n m a b c v : Int} {f g h : Fun8} {L K : List Fun8} {ord : List Int}
theorem iteF_and0 : iteF f g (constF false) = andF f g := fn_ext fun i hi => by rw [bt_ite hi, bt_and, bt_const hi]; cases f.getLsbD i <;> simp
theorem iteF_or1 : iteF f (constF true) g = orF f g := fn_ext fun i hi => by rw [bt_ite hi, bt_or, bt_const hi]; cases f.getLsbD i <;> simp
structure Ro (s : Md) (L : List Fun8) (M : Int) : Prop where
  good : s.Good []
  full : s.Full L
  most : s.a.most = M
theorem Ro.bld {M : Int} (R : Ro s L M) (f : Fun8) (hm : sizeF s.ord (L ++ [f]) ≤ M) : ∃ n s', s.bld f = ((n, 0), s') ∧ Ro s' (L ++ [f]) M ∧ s.Le s' ∧ Den s' n f := by
  have bl := R.good.bld f
  have ok := R.good.bld_ok R.full f (by rw [R.most]; exact hm)
  have F := R.good.bld_app R.full f
  obtain ⟨⟨⟨n, e⟩, s'⟩, hR⟩ : ∃ R, s.bld f = R := ⟨_, rfl⟩
  rw [hR] at bl ok F
  dsimp only at ok F
  subst ok
  rcases bl.res with ⟨_, d⟩ | ⟨e, _⟩
  · exact ⟨n, s', hR, ⟨bl.good, F, bl.le.most.trans R.most⟩, bl.le, d⟩
  · cases e
theorem Ro.size {M : Int} (R : Ro s L M) (h : 77 * ((L.length : Int) + 1) ≤ M) : sizeF s.ord (L ++ [f]) ≤ M := by
  have := size_77s R.good.wf.ord.once (L ++ [f])
  rw [List.length_append, List.length_singleton] at this
  omega
theorem Ro.new {M : Int} (h0 : 0 ≤ M) (h1 : M ≤ 20000) : Ro (Md.new M) [] M := ⟨Md.Good.start h0 h1, fun n f hn => by
  have : (Md.new M).has n = false := by
    cases h : (Md.new M).has n with
    | false => rfl
    | true =>
      have := (Md.Good.start h0 h1).wf.lt h
      have e : (Md.new M).N.length = 0 := rfl
      omega
  rw [this] at hn
  exact absurd hn (by simp), rfl⟩
theorem size_one (ho : AllOnce ord) (h : ∀ u, depF f u = true → u = v) : sizeF ord [f] ≤ 1 := by
  by_cases ht : 0 ≤ topF ord f
  · rw [size_sides ht]
    have hv := h _ (topF_dep ht)
    have z : ∀ b, sizeF ord [cofF f (topF ord f) b] = 0 := fun b => size_zero.2 (supF_zero.2 fun u => by
      cases hd : depF (cofF f (topF ord f) b) u
      · rfl
      · have := h u (dep_of_cof hd)
        rw [this, ← hv, dep_cof] at hd; cases hd)
    unfold kids
    rw [if_pos ht]
    have := size_app (ord := ord) (l := [cofF f (topF ord f) false]) (k := [cofF f (topF ord f) true])
    rw [z, z] at this
    have e : [cofF f (topF ord f) false] ++ [cofF f (topF ord f) true] = [cofF f (topF ord f) false, cofF f (topF ord f) true] := rfl
    rw [e] at this
    omega
  · have := size_zero (ord := ord).2 ((top_none_iff ho).1 (topF_none ht).2)
    omega
theorem dep_var {u : Int} (h : depF (varF v) u = true) : u = v := by
  by_cases e : u = v
  · exact e
  · exfalso
    by_cases hv : 0 ≤ v ∧ v < 8
    · rw [nodep_of (by rw [cof_var_other e, cof_var_other e])] at h; cases h
    · rw [varF_out hv, dep_const] at h; cases h
theorem size_var (ho : AllOnce ord) : sizeF ord [varF v] ≤ 1 := size_one ho fun u hu => dep_var hu
theorem size_c {c : Bool} : sizeF ord [constF c] = 0 := size_zero.2 sup_constF
theorem size_snoc : sizeF ord (L ++ [f]) ≤ sizeF ord L + sizeF ord [f] := size_app
end
end Go.Bx

namespace Go.Bx
open Go
set_option linter.unusedSimpArgs false
set_option linter.unusedVariables false
inductive Md.Rc (s : Md) (rs : List Int) : Int → Prop
  | root {n : Int} (h : n ∈ rs) (hn : s.has n = true) : Md.Rc s rs n
  | lo {n : Int} (h : Md.Rc s rs n) (hn : s.has (s.nd n).2.1 = true) : Md.Rc s rs (s.nd n).2.1
  | hi {n : Int} (h : Md.Rc s rs n) (hn : s.has (s.nd n).2.2 = true) : Md.Rc s rs (s.nd n).2.2
open Classical in
noncomputable def Md.keep (s : Md) (rs : List Int) (n : Int) : Bool := decide (s.Rc rs n)
noncomputable def Md.reach (s : Md) (rs : List Int) : List Int := s.all.filter (s.keep rs)
section
variable {s s' : Md} {n m c v : Int} {f g : Fun8} {rs l K w w' : List Int}
theorem Md.Rc.has (h : s.Rc rs n) : s.has n = true := by cases h <;> assumption
theorem Md.keep_iff : s.keep rs n = true ↔ s.Rc rs n := by unfold Md.keep; simp only [decide_eq_true_eq]
theorem Md.WF.mem_reach (W : s.WF) : n ∈ s.reach rs ↔ s.Rc rs n := by
  unfold Md.reach
  rw [List.mem_filter, W.mem_all, Md.keep_iff]
  exact ⟨fun h => h.2, fun h => ⟨h.has, h⟩⟩
theorem Md.all_up : s.all.Pairwise (· < ·) := by
  show (((List.range s.N.length).map fun j : Nat => (j : Int) + 2).filter fun n => s.has n).Pairwise (· < ·)
  refine List.Pairwise.filter _ ?_
  rw [List.pairwise_map]
  exact List.Pairwise.imp (fun h => by omega) List.pairwise_lt_range
theorem Md.reach_up : (s.reach rs).Pairwise (· < ·) := List.Pairwise.filter _ Md.all_up
theorem up_eq : ∀ {l k : List Int}, l.Pairwise (· < ·) → k.Pairwise (· < ·) → (∀ x, x ∈ l ↔ x ∈ k) → l = k
  | [], [], _, _, _ => rfl
  | [], b :: k, _, _, h => by have := (h b).2 (by simp); cases this
  | a :: l, [], _, _, h => by have := (h a).1 (by simp); cases this
  | a :: l, b :: k, hl, hk, h => by
    have hl' := List.pairwise_cons.1 hl
    have hk' := List.pairwise_cons.1 hk
    have hab : a = b := by
      rcases List.mem_cons.1 ((h a).1 (by simp)) with e | e
      · exact e
      · rcases List.mem_cons.1 ((h b).2 (by simp)) with e2 | e2
        · exact e2.symm
        · have := hl'.1 b e2; have := hk'.1 a e; omega
    subst hab
    rw [up_eq hl'.2 hk'.2 fun x => ?_]
    constructor
    · intro hx
      rcases List.mem_cons.1 ((h x).1 (by simp [hx])) with e | e
      · have := hl'.1 x hx; omega
      · exact e
    · intro hx
      rcases List.mem_cons.1 ((h x).2 (by simp [hx])) with e | e
      · have := hk'.1 x hx; omega
      · exact e
structure Rdf (s : Md) (rs K w : List Int) : Prop where
  nodup : K.Nodup
  rch : ∀ n ∈ K, s.Rc rs n
  wrk : ∀ n ∈ w, s.has n = true → s.Rc rs n
  root : ∀ n ∈ rs, s.has n = true → n ∈ K ∨ n ∈ w
  lo : ∀ n ∈ K, s.has (s.nd n).2.1 = true → (s.nd n).2.1 ∈ K ∨ (s.nd n).2.1 ∈ w
  hi : ∀ n ∈ K, s.has (s.nd n).2.2 = true → (s.nd n).2.2 ∈ K ∨ (s.nd n).2.2 ∈ w
theorem Rdf.init : Rdf s rs [] rs := ⟨List.nodup_nil, fun _ h => (by cases h), fun n hn hh => .root hn hh, fun n hn _ => .inr hn, fun _ h => (by cases h), fun _ h => (by cases h)⟩
theorem Rdf.skip (h : Rdf s rs K w) (hn : s.has n = false ∨ n ∈ K) (h1 : ∀ x ∈ w, x = n ∨ x ∈ w') (h2 : ∀ x ∈ w', x ∈ w) : Rdf s rs K w' := by
  have key : ∀ x, s.has x = true → x ∈ K ∨ x ∈ w → x ∈ K ∨ x ∈ w' := fun x hx hxw => by
    rcases hxw with e | e
    · exact .inl e
    · rcases h1 x e with rfl | e
      · rcases hn with e2 | e2
        · rw [e2] at hx; cases hx
        · exact .inl e2
      · exact .inr e
  exact ⟨h.nodup, h.rch, fun x hx => h.wrk x (h2 x hx), fun x hx hh => key x hh (h.root x hx hh), fun x hx hh => key _ hh (h.lo x hx hh), fun x hx hh => key _ hh (h.hi x hx hh)⟩
theorem Rdf.go (h : Rdf s rs K w) (hn : s.has n = true) (hK : n ∉ K) (hw : n ∈ w) (h1 : ∀ x ∈ w, x = n ∨ x ∈ w') (h2 : ∀ x ∈ w', x ∈ w ∨ x = (s.nd n).2.1 ∨ x = (s.nd n).2.2) (h3 : (s.nd n).2.1 ∈ w') (h4 : (s.nd n).2.2 ∈ w') : Rdf s rs (K ++ [n]) w' := by
  have hr := h.wrk n hw hn
  have key : ∀ x, s.has x = true → x ∈ K ∨ x ∈ w → x ∈ K ++ [n] ∨ x ∈ w' := fun x hx hxw => by
    rcases hxw with e | e
    · exact .inl (by simp [e])
    · rcases h1 x e with rfl | e
      · exact .inl (by simp)
      · exact .inr e
  refine ⟨?_, fun x hx => ?_, fun x hx hh => ?_, fun x hx hh => key x hh (h.root x hx hh), fun x hx hh => ?_, fun x hx hh => ?_⟩
  · rw [List.nodup_append]
    exact ⟨h.nodup, by simp, fun x hx y hy e => by rw [List.mem_singleton] at hy; subst e hy; exact hK hx⟩
  · rcases List.mem_append.1 hx with e | e
    · exact h.rch x e
    · rw [List.mem_singleton.1 e]; exact hr
  · rcases h2 x hx with e | rfl | rfl
    · exact h.wrk x e hh
    · exact .lo hr hh
    · exact .hi hr hh
  · rcases List.mem_append.1 hx with e | e
    · exact key _ hh (h.lo x e hh)
    · rw [List.mem_singleton.1 e]; exact .inr h3
  · rcases List.mem_append.1 hx with e | e
    · exact key _ hh (h.hi x e hh)
    · rw [List.mem_singleton.1 e]; exact .inr h4
theorem Rdf.done (h : Rdf s rs K []) : n ∈ K ↔ s.Rc rs n := by
  refine ⟨h.rch n, fun hr => ?_⟩
  induction hr with
  | root hm hh => exact (h.root _ hm hh).resolve_right (by simp)
  | lo _ hh ih => exact (h.lo _ ih hh).resolve_right (by simp)
  | hi _ hh ih => exact (h.hi _ ih hh).resolve_right (by simp)
theorem Rdf.len (h : Rdf s rs K w) (W : s.WF) : K.length ≤ s.all.length := sub_len' h.nodup fun x hx => W.mem_all.2 (h.rch x hx).has
theorem Rdf.len' (h : Rdf s rs K w) (W : s.WF) (hn : s.has n = true) (hK : n ∉ K) : K.length < s.all.length := by
  have := sub_len' (l := n :: K) (List.nodup_cons.2 ⟨hK, h.nodup⟩) (m := s.all) fun x hx => by
    rcases List.mem_cons.1 hx with rfl | hx
    · exact W.mem_all.2 hn
    · exact W.mem_all.2 (h.rch x hx).has
  rw [List.length_cons] at this; omega
def Md.drop1 (kp : Int → Bool) (v : Int) (s : Md) (n : Int) : Md := if s.of n v && !kp n then s.drop n else s
def Md.dropV (kp : Int → Bool) (v : Int) (l : List Int) (s : Md) : Md := l.foldl (Md.drop1 kp v) s
def Md.dropO (kp : Int → Bool) (l : List Int) (o : List Int) (s : Md) : Md := o.foldl (fun s v => s.dropV kp v l) s
noncomputable def Md.sweep (s : Md) (rs : List Int) : Md := s.dropO (s.keep rs) s.all s.ord
structure Swp (s0 : Md) (rs : List Int) (s : Md) : Prop where
  good : s.Good []
  ord : s.ord = s0.ord
  most : s.a.most = s0.a.most
  N : s.N = s0.N
  has : ∀ n, s.has n = true → s0.has n = true
  kept : ∀ n, s0.Rc rs n → s.has n = true
def Ahd (s0 : Md) (rs : List Int) (s : Md) (v : Int) : Prop := ∀ n, s.has n = true → lvl s0.ord (s.nd n).1 < lvl s0.ord v → s0.Rc rs n
structure Swept (s : Md) (rs : List Int) (s' : Md) : Prop where
  swp : Swp s rs s'
  only : ∀ n, s'.has n = true ↔ s.Rc rs n
end
end Go.Bx

namespace Go.Bx
open Go
set_option linter.unusedSimpArgs false
set_option linter.unusedVariables false
noncomputable def Md.restr (s : Md) (a v : Int) (b : Bool) : (Int × Int) × Md := if s.there a && (decide (0 ≤ v) && decide (v < 8)) then s.bld (cofF (s.tab a) v b) else ((0, 1), s)
noncomputable def Md.both (s : Md) (a v : Int) (k : Md → Int → Int → (Int × Int) × Md) : (Int × Int) × Md :=
  if (s.restr a v false).1.2 = 0 then
    if ((s.restr a v false).2.restr a v true).1.2 = 0 then k ((s.restr a v false).2.restr a v true).2 (s.restr a v false).1.1 ((s.restr a v false).2.restr a v true).1.1
    else (s.restr a v false).2.restr a v true
  else s.restr a v false
noncomputable def Md.compose (s : Md) (a v g : Int) : (Int × Int) × Md := if s.there g && (decide (0 ≤ v) && decide (v < 8)) then s.both a v fun s lo hi => s.ite g hi lo else ((0, 1), s)
noncomputable def Md.exist (s : Md) (a v : Int) : (Int × Int) × Md := s.both a v fun s lo hi => s.ite lo 1 hi
noncomputable def Md.forall_ (s : Md) (a v : Int) : (Int × Int) × Md := s.both a v fun s lo hi => s.ite lo hi 0
section
variable {s s' : Md} {n m a b c v g : Int} {f h : Fun8} {rs : List Int}
theorem restr_no (h : (s.there a && (decide (0 ≤ v) && decide (v < 8))) = false) (b : Bool) : s.restr a v b = ((0, 1), s) := by unfold Md.restr; rw [h]; rfl
theorem restr_yes (h : (s.there a && (decide (0 ≤ v) && decide (v < 8))) = true) (b : Bool) : s.restr a v b = s.bld (cofF (s.tab a) v b) := by unfold Md.restr; rw [h]; rfl
theorem restr_den (d : Den s a f) (hv : 0 ≤ v ∧ v < 8) (b : Bool) : s.restr a v b = s.bld (cofF f v b) := by
  rw [restr_yes (by rw [d.isThere]; simp [hv]), Md.tab_den d]
theorem Itt.none (G : s.Good []) : Itt s ((0, 1), s) := ⟨G, Md.Le.refl s, .inr (.inl rfl), fun _ => rfl, fun h => by cases h⟩
theorem Md.Good.rtt (G : s.Good []) (a v : Int) (b : Bool) : Itt s (s.restr a v b) := by
  unfold Md.restr
  split
  · exact (G.bld _).itt
  · exact .none G
noncomputable def Md.step (s : Md) (rs : List Int) (v : Int) (down : Bool) : Bool × Md :=
  if (s.swap (if down then lvl s.ord v else lvl s.ord v - 1)).1 = 0 then (true, (s.swap (if down then lvl s.ord v else lvl s.ord v - 1)).2.sweep rs) else (false, s)
structure Lk where
  s : Md
  best : Int
  few : Int
noncomputable def Lk.go (rs : List Int) (v grow : Int) (down : Bool) : Nat → Lk → Lk
  | 0, x => x
  | k + 1, x =>
    if lvl x.s.ord v = (if down then 7 else 0) then x
    else if (x.s.step rs v down).1 = false then x
    else
      let s' := (x.s.step rs v down).2
      let y : Lk := if s'.a.many < x.few then ⟨s', lvl s'.ord v, s'.a.many⟩ else ⟨s', x.best, x.few⟩
      if grow < s'.a.many then y else Lk.go rs v grow down k y
noncomputable def Md.back (rs : List Int) (v best : Int) : Nat → Md → Md
  | 0, s => s
  | k + 1, s => if lvl s.ord v = best then s else if (s.step rs v (decide (lvl s.ord v < best))).1 = false then s else Md.back rs v best k (s.step rs v (decide (lvl s.ord v < best))).2
noncomputable def Md.sift (s : Md) (rs : List Int) (v grow : Int) : Md :=
  let s1 := s.sweep rs
  let x := Lk.go rs v grow false 8 (Lk.go rs v grow true 8 ⟨s1, lvl s1.ord v, s1.a.many⟩)
  Md.back rs v x.best 8 x.s
noncomputable def Md.siftAll (rs : List Int) (grow : Int) (l : List Int) (s : Md) : Md := l.foldl (fun s v => s.sift rs v grow) s
end
end Go.Bx

namespace Go.Proofs.Ytpeindhocndmnaa
open Go Go.Bx
set_option linter.unusedSimpArgs false
set_option linter.unusedVariables false
set_option maxRecDepth 100000
set_option maxHeartbeats 4000000
attribute [local irreducible] X XO XE XF XD XW thenX inX retX kN CallsR
end Go.Proofs.Ytpeindhocndmnaa

namespace Go.Bx
open Go
set_option linter.unusedSimpArgs false
set_option linter.unusedVariables false
def AnyO (P : Program) (ops : Array Oper) (I : (Nat → Bool) → Env → World → Prop) : Prop :=
  ∀ (S : Nat → Bool) (j : Nat) (o : Oper), ops[j]? = some o → S j = false → (∀ ed ∈ o.after, Region.binds .any ed = true → S ed.on = true) → ∀ e w, I S e w →
    wantG e (gslot ops o.guard) ∧ XV P o.op o.type e w (fun v w' => I (fun i => S i || i == j) (e.put o.dst v) w')
theorem ready_ex {ops : Array Oper} (hb : ∀ (j : Nat) (o : Oper), ops[j]? = some o → ∀ ed ∈ o.after, Region.binds .any ed = true → ed.on < j) {listed : Array Bool} (hs : listed.size = ops.size) :
    ∀ i, i < ops.size → listed.getD i true = false → ∃ k, k ∈ Region.ready .any ops listed := by
  intro i
  induction i using Nat.strongRecOn with
  | _ i ih2 =>
    intro hi hl
    by_cases hx : ∃ k, k < i ∧ listed.getD k true = false
    · obtain ⟨k, hk, hk2⟩ := hx
      exact ih2 k hk (by omega) hk2
    · refine ⟨i, ready_iff.2 ⟨hi, hl, ops[i], Array.getElem?_eq_getElem hi, fun ed he hbd => ?_⟩⟩
      have hlt := hb i _ (Array.getElem?_eq_getElem hi) ed he hbd
      rw [← getD_tf (by rw [hs]; omega)]
      cases hle : listed.getD ed.on true with
      | true => rfl
      | false => exact absurd ⟨ed.on, hlt, hle⟩ hx
theorem wpAny_of_I {P : Program} {ops : Array Oper} {N : Nat} (hN : N ≤ 1000000) {Q : Exit → Act → World → Prop} {K : Env → World → Prop} (hQ : ∀ a e w, Sim N a e → K e w → Q .normal a w)
    (hd : ∀ (j : Nat) (o : Oper), ops[j]? = some o → ∀ x, o.dst = some x → x < N)
    (hb : ∀ (j : Nat) (o : Oper), ops[j]? = some o → ∀ ed ∈ o.after, Region.binds .any ed = true → ed.on < j)
    {I : (Nat → Bool) → Env → World → Prop} (h : AnyO P ops I) (hI : ∀ S e w, (∀ j, j < ops.size → S j = true) → I S e w → K e w) :
    ∀ (fuel : Nat) (listed : Array Bool) (a : Act) (e : Env) (w : World), (un ops.size listed).length ≤ fuel → listed.size = ops.size → Sim N a e → I (fun i => listed.getD i false) e w → wpAny P .any ops Q fuel listed a w := by
  have full : ∀ listed : Array Bool, listed.size = ops.size → un ops.size listed = [] → ∀ j, j < ops.size → listed.getD j false = true := fun listed hs hn j hj => by
    rw [← getD_tf (by omega)]
    cases hl : listed.getD j true with
    | true => rfl
    | false =>
      have : j ∈ un ops.size listed := mem_un.2 ⟨hj, hl⟩
      rw [hn] at this; cases this
  intro fuel
  induction fuel with
  | zero =>
    intro listed a e w hf hs sim hi
    have hnil : un ops.size listed = [] := List.length_eq_zero_iff.1 (by omega)
    refine ⟨List.eq_nil_iff_forall_not_mem.2 fun i hi => ?_, hQ _ _ _ sim (hI _ _ _ (full listed hs hnil) hi)⟩
    obtain ⟨hi1, hi2, _⟩ := ready_iff.1 hi
    have : i ∈ un ops.size listed := mem_un.2 ⟨hi1, hi2⟩
    rw [hnil] at this
    cases this
  | succ f ih =>
    intro listed a e w hf hs sim hi
    refine ⟨fun h0 => ?_, fun j hj => ?_⟩
    · have hnil : un ops.size listed = [] := by
        cases hun : un ops.size listed with
        | nil => rfl
        | cons i r =>
          exfalso
          have hm : i ∈ un ops.size listed := by rw [hun]; simp
          obtain ⟨hi1, hi2⟩ := mem_un.1 hm
          obtain ⟨k, hk⟩ := ready_ex hb hs i hi1 hi2
          rw [h0] at hk
          cases hk
      exact hQ _ _ _ sim (hI _ _ _ (full listed hs hnil) hi)
    · obtain ⟨hjl, hju, y, hy, hallj⟩ := ready_iff.1 hj
      have hSj : listed.getD j false = false := by rw [← getD_tf (by omega)]; exact hju
      obtain ⟨wg, xv⟩ := h (fun i => listed.getD i false) j y hy hSj hallj e w hi
      obtain ⟨r1, r2, hs1, hs2, hs3⟩ := filter_split (fun i => listed.getD i true == false) ops.size j hjl (by simp [hju])
      have hset : un ops.size (listed.setIfInBounds j true) = r1 ++ r2 := by rw [un_set hs hjl, ← hs3]
      have hun : un ops.size listed = r1 ++ j :: r2 := hs1
      rw [hun] at hf
      unfold wpOp
      rw [hy]
      simp only []
      rw [if_pos ((wanted_iff sim hN).2 wg)]
      refine .inl (wp_of_XV sim (fun v w' hk => ?_) xv)
      refine ih _ _ _ w' (by rw [hset]; simp at hf ⊢; omega) (by simpa using hs) (sim.put (hd j y hy) v) ?_
      have e1 : (fun i => (listed.setIfInBounds j true).getD i false) = fun i => listed.getD i false || i == j := by
        funext i
        rw [getD_set]
        by_cases hij : j = i
        · subst hij; rw [if_pos ⟨rfl, by omega⟩]; simp
        · rw [if_neg (fun h => hij h.1)]
          have : (i == j) = false := by simpa using fun h => hij h.symm
          rw [this, Bool.or_false]
      rw [e1]; exact hk
def backOK (ops : Array Oper) : Bool := (List.range ops.size).all fun j => match ops[j]? with | some o => o.after.all fun ed => !Region.binds .any ed || decide (ed.on < j) | none => true
theorem callsS {P : Program} {f : FuncId} {fn : Func} {c0 c2 : Code} {id : Nat} {ops : Array Oper} {args : Array Value} {w : World} {R : Value → World → Prop} {rs : Array ResultVar}
    (hf : P.funcs[f]? = some fn) (hr : fn.results = rs) (hb : fn.body = some (.seq c0 (.seq (.region id ops true) c2))) (hm : P.follows .mixedOrders = true) {bs : Bigs}
    (hk : (okN bs fn.ntmps c0 && okN bs fn.ntmps c2 && dstsOK fn.ntmps ops.toList && decide (fn.ntmps ≤ 1000000) && decide (args.size ≤ fn.ntmps) && backOK ops) = true)
    {I : (Nat → Bool) → Env → World → Prop} (h : X P (comp bs c0) (fun ex e w => ex = .normal ∧ ∀ d, I (fun _ => false) e { w with drawn := d }) (envOf args) w) (hA : AnyO P ops I)
    (h2 : ∀ S e w, (∀ j, j < ops.size → S j = true) → I S e w → X P (comp bs c2) (retX P rs R) e w) : CallsR P f args w R := by
  subst hr
  simp only [Bool.and_eq_true, decide_eq_true_eq] at hk
  obtain ⟨⟨⟨⟨⟨k0, k2⟩, kd⟩, kn⟩, ka⟩, kb⟩ := hk
  have hd : ∀ (j : Nat) (o : Oper), ops[j]? = some o → ∀ x, o.dst = some x → x < fn.ntmps := fun j o ho x hx => by
    have hmem : o ∈ ops.toList := Array.mem_toList_iff.2 (Array.mem_of_getElem? ho)
    have := List.all_eq_true.1 kd o hmem
    rw [hx] at this
    simpa using this
  have hbk : ∀ (j : Nat) (o : Oper), ops[j]? = some o → ∀ ed ∈ o.after, Region.binds .any ed = true → ed.on < j := fun j o ho ed he hbd => by
    have hj := (Array.getElem?_eq_some_iff.1 ho).1
    have := List.all_eq_true.1 kb j (List.mem_range.2 hj)
    rw [ho] at this
    have := Array.all_eq_true'.1 this ed he
    rw [hbd] at this
    simpa using this
  refine calls_of_wp hf hb (wp_seq (wp_of_X hm kn c0 _ _ _ (envOf args) w k0 ⟨by simp; omega, rfl, fun i => ?_⟩ (fun ex a e w hs hq => ?_) h))
  · simp only [envOf, Array.getD_eq_getD_getElem?]
    rcases Nat.lt_or_ge i args.size with h1 | h1
    · simp [Array.getElem?_append_left h1]
    · rw [Array.getElem?_append_right h1, Array.getElem?_eq_none h1]
      rcases Nat.lt_or_ge (i - args.size) (fn.ntmps - args.size) with h2 | h2
      · simp [h2]
      · simp [Nat.not_lt.2 h2]
  · obtain ⟨rfl, hq⟩ := hq
    have hun : un ops.size (Array.replicate ops.size false) = List.range ops.size := by
      unfold un
      refine List.filter_eq_self.2 fun i hi => ?_
      have := List.mem_range.1 hi
      simp [Array.getD_eq_getD_getElem?, this]
    refine wp_seq (wp_region_any hm (wpAny_of_I (K := fun e w => X P (comp bs c2) (retX P fn.results R) e w) kn (fun a e w hs hx => ?_) hd hbk hA h2 _ _ a e _ (by rw [hun]; simp) (by simp) hs ?_))
    · refine wp_of_X hm kn c2 _ _ a e w k2 hs (fun ex a e w hs hq => ?_) hx
      cases ex <;> simp only [retX] at hq <;> try exact hq.elim
      all_goals
        obtain ⟨v, h1, h2⟩ := hq
        refine ⟨hs.defers, v, ?_, ⟨v, rfl, h2⟩⟩
        rw [results_eq hs]
        exact h1
    · have e1 : (fun i => (Array.replicate ops.size false).getD i false) = fun _ => false := by
        funext i
        rw [Array.getD_eq_getD_getElem?]
        by_cases hi : i < ops.size
        · simp [hi]
        · simp [Nat.not_lt.1 hi]
      rw [e1]; exact hq _
end Go.Bx

