/- ArR2, RsO, RsW, RsM, RsF, RsS, Law00, Law00b, StNew, Law07, Law07b, Law07c, Law07d, LawKit, LawFv, StOpen, Tab, Cof, KeyF, SizeP: texts of this work, one behind the other. -/
import Derived.Test.YtpeindhocndmnaaGreatRt5
import Derived.WalkKit
import Derived.ProofKit
import Derived.OpenShut
import Derived.ShutString
import Derived.ChangeOld
import Derived.Below
import Derived.Carry
import Derived.SizedLaws
import Derived.KernelRfl
import Derived.Test.YtpeindhocndmnaaGreatRows
namespace Go.Proofs.YtpeindhocndmnaaGreat
open Go Go.Bx
set_option linter.unusedSimpArgs false
set_option linter.unusedVariables false
set_option maxRecDepth 100000
set_option maxHeartbeats 4000000
attribute [local irreducible] X XO XE XF XD XW thenX inX retX kN CallsR
theorem wo_last {R : List Int} {n : Int} (h : (R ++ [n]).Nodup) : wo (R ++ [n]) n = R := by
  rw [List.nodup_append] at h
  unfold wo
  rw [List.filter_append]
  have e1 : R.filter (fun x => decide (x ≠ n)) = R := List.filter_eq_self.2 fun x hx => by
    have := h.2.2 x hx n (by simp)
    simpa using this
  rw [e1]; simp
theorem mem_wo {l : List Int} {n m : Int} : m ∈ wo l n ↔ m ∈ l ∧ m ≠ n := by unfold wo; rw [List.mem_filter]; simp
theorem nodup_wo {l : List Int} {n : Int} (h : l.Nodup) : (wo l n).Nodup := List.Pairwise.filter _ h
theorem nodup_add {l : List Int} {n : Int} (h : l.Nodup) (hn : n ∉ l) : (l ++ [n]).Nodup := by
  rw [List.nodup_append]
  exact ⟨h, by simp, fun x hx y hy e => by rw [List.mem_singleton] at hy; subst hy; subst e; exact hn hx⟩
theorem raNew_box {most : Int} {w : World} : RaI (fun k => k = w.heap.size) (w.alloc (.cells #[.int .i64 most, .slice none 0 0, .slice none 0 0, .int .i64 0] 86)) w.heap.size ⟨most, [], []⟩ :=
  ⟨[], none, 0, none, 0, hA rfl, SlC.nil _ _, SlC.nil _ _, rfl, (fun g h => by cases h), (fun g h => by cases h), (fun g h => by cases h), fun k hk => by rw [hk, alloc_size]; omega, List.nodup_nil, fun n => by unfold Ar.has; simp⟩
theorem raTake_calls {F : Nat → Prop} {w : World} {p : Nat} {a : Ar} (h : RaI F w p a) (ho : a.OK) :
    CallsR Tryz.prog 109 #[.pointer (some ⟨p, 0, none⟩)] w fun r w' => ∃ b, ((∃ n, a.take = some (n, b) ∧ r = .tuple #[.int .i64 n, .int .i64 0]) ∨ (a.take = none ∧ b = a ∧ r = .tuple #[.int .i64 0, .int .i64 2])) ∧ RaI (Grow F w w') w' p b ∧ Chg F w w' := by
  obtain ⟨K, ta, tc, fa, fc, h⟩ := id h
  have hKl := h.len ho
  have hKm := ho.many_le
  have hrm := ho.room
  have htk := fun n b => ho.taken (n := n) (b := b)
  obtain ⟨hp, hT, hF, fp, ft, ff, dj, hlt, hnd, hmem⟩ := h
  have hlim := ho.lim
  have hmost := ho.most
  have hpl := lt_of_heap hp
  have hKb : K.length ≤ 20000 := by omega
  have hfl := ho.frlen
  have hFnd := ho.nodup
  have hk := ho.takes
  clear ho
  generalize a.take = o at hk hrm htk
  have hta : ∀ g, blk ta = some g → g ≠ p := fun g hg => hT.ne hg hp (by decide)
  have hfa : ∀ g, blk fa = some g → g ≠ p := fun g hg => hF.ne hg hp (by decide)
  cases hk with
  | full hFr hm =>
    have e1 : ((K.length : Int) == a.most) = true := by simpa using hKl.trans (hrm.1 rfl)
    clear hrm htk hFr hm hKl
    refine en1 Tryz.func109 Tryz.results109 mixed [] ?_
    intro e0 h0
    refine w_ fun d => ?_
    exact ⟨a, .inr (by simp), RaI.grown (w := w) ⟨K, ta, tc, fa, fc, hp, hT, hF, fp, ft, ff, dj, hlt, hnd, hmem⟩ ext_, chg_⟩
  | back R n hFr h0' h1' hf =>
    have e1 : ((K.length : Int) == a.most) = false := by
      have : ¬ (K.length : Int) = a.most := fun e => by have := hrm.2 (hKl.symm.trans e); cases this
      simpa using this
    obtain ⟨_, _, _, _, _, _, hb7, _⟩ := htk n _ rfl
    have hnK : n ∉ K := fun hm => by have := (hmem n).1 hm; rw [hf] at this; cases this
    have hK2 := nodup_add hnd hnK
    have e2 : a.Fr.length = R.length + 1 := by rw [hFr]; simp
    rw [hFr] at hF hFnd
    rw [e2] at hp
    obtain ⟨g, cur, rfl, hg, hc, _, hat⟩ := hF.at (i := R.length) (v := .int .i64 n) (by simp)
    have hgp : g ≠ p := hfa g rfl
    have hwo := wo_last hFnd
    have hin := hF.inp
    have c1 := fun u (hu : Ext w u) => rwo_calls (c := fc) (Inp.ext hin hu) (by simp; omega) n
    rw [hwo, List.length_append, List.length_singleton] at c1
    have e3 : (R.length : Int) + 1 - 1 = R.length := by omega
    rw [List.length_map, List.length_append, List.length_singleton] at hc
    clear hwo hin hFr hFnd hrm htk hKl
    refine en1 Tryz.func109 Tryz.results109 mixed [] ?_
    intro e0 h0
    refine w_ fun d => ?_
    refine (c1 _ ext_).mono ?_
    rintro _ w2 ⟨a2, c2, rfl, hS2, hn2, hE2⟩
    have hEw : Ext w w2 := Ext.trans (by exact ext_) hE2
    have hs2 := sz_ hEw
    have hp2 := hEw.at hp
    have hpl2 := lt_of_heap hp2
    have hS2p : ∀ x, blk a2 = some x → x ≠ p := fun x hx => by have := hn2 x hx; simp only [dr_heap] at this; omega
    obtain ⟨C, hC⟩ : ∃ C, (#[.int .i64 a.most, .slice ta K.length tc, .slice a2 R.length c2, .int .i64 a.T.length] : Array Value) = C := ⟨_, rfl⟩
    have hT2 := (hT.ext hEw).upd (b := p) (o := .cells C 86) hta
    have hS3 := hS2.upd (b := p) (o := .cells C 86) hS2p
    obtain ⟨a3, c3, w3, hr, hT3, hC3, hs3, hB3⟩ := pushI hT2 (by omega) n
    simp only [upd_size] at hr hs3 hB3
    subst hC
    have hp3 : w3.heap[p]? = some (.cells #[.int .i64 a.most, .slice ta K.length tc, .slice a2 R.length c2, .int .i64 a.T.length] 86) := by
      rw [hC3.heap _ (by simp only [upd_size]; exact hpl2) fun h => hta p h rfl]; exact upd_same hpl2
    have hpl3 := lt_of_heap hp3
    have hta2 : ∀ x, blk ta = some x → blk a2 ≠ some x := fun x hx h2 => by have := hn2 x h2; simp only [dr_heap] at this; have := hT.lt hx; omega
    have hS4 := hS3.chg hC3 fun x hx h2 => hta2 x h2 hx
    have hCw := ((hEw.chg F).upd (b := p) (fun _ => fp) (.cells #[.int .i64 a.most, .slice ta K.length tc, .slice a2 R.length c2, .int .i64 a.T.length] 86)).trans hC3 fun b _ hb => ft b hb
    have hn2' : ∀ x, blk a2 = some x → w.heap.size ≤ x := fun x hx => by have := hn2 x hx; simpa only [dr_heap] using this
    have hS2l : ∀ x, blk a2 = some x → x < w3.heap.size := fun x hx => hS4.lt hx
    clear hC3 hT2 hS3 hE2 c1 hn2
    refine w_ fun d => ?_
    have ha3 : ∀ g, blk a3 = some g → g ≠ p := fun g hg => hT3.ne hg hp3 (by decide)
    refine ⟨_, .inl ⟨_, rfl, rfl⟩, ⟨K ++ [n], a3, c3, a2, c2, ?_, hT3.upd ha3, hS4.upd hS2p, .inl fp, fun g hg => ?_, fun g hg => ?_, fun g hg h2 => ?_, fun k hk => ?_, hK2, fun m => ?_⟩, chg_⟩
    · rw [show (K ++ [n]).length = K.length + 1 by simp, show (a.takeB n R).T.length = a.T.length by simp [Ar.takeB]]
      exact hA rfl
    · rcases hB3 g hg with h | ⟨h, h'⟩
      · exact .inl (ft g h)
      · exact .inr ⟨by omega, by simp only [upd_size]; exact h'⟩
    · exact .inr ⟨hn2' g hg, by simp only [upd_size]; exact hS2l g hg⟩
    · rcases hB3 g hg with h | ⟨h, h'⟩
      · exact hta2 g h h2
      · have := hS2.lt h2; omega
    · rcases hk with hk | hk
      · have := hlt k hk; simp only [upd_size]; omega
      · exact hk.2
    · rw [hb7 m, List.mem_append, List.mem_singleton, hmem, Bool.or_eq_true, decide_eq_true_eq]
  | new hFr hm =>
    have e1 : ((K.length : Int) == a.most) = false := by
      have : ¬ (K.length : Int) = a.most := fun e => by have := hrm.2 (hKl.symm.trans e); cases this
      simpa using this
    obtain ⟨_, _, _, hno, _, _, hb7, _⟩ := htk _ _ rfl
    have hnK : (a.T.length : Int) ∉ K := fun hm => by have := (hmem _).1 hm; rw [hno] at this; cases this
    have hK2 := nodup_add hnd hnK
    have e2 : a.Fr.length = 0 := by rw [hFr]; rfl
    rw [hFr] at hF
    rw [e2] at hp
    clear hFr hFnd hrm htk hKl hno hnK
    refine en1 Tryz.func109 Tryz.results109 mixed [] ?_
    intro e0 h0
    refine w_ fun d => ?_
    have hEw : Ext w (dr w d) := ext_
    obtain ⟨C, hC⟩ : ∃ C, (#[.int .i64 a.most, .slice ta K.length tc, .slice fa 0 fc, .int .i64 (a.T.length + 1)] : Array Value) = C := ⟨_, rfl⟩
    have hT2 := (hT.ext hEw).upd (b := p) (o := .cells C 86) hta
    have hS3 := (hF.ext hEw).upd (b := p) (o := .cells C 86) hfa
    obtain ⟨a3, c3, w3, hr, hT3, hC3, hs3, hB3⟩ := pushI hT2 (by omega) a.T.length
    simp only [upd_size, dr_heap] at hr hs3 hB3
    subst hC
    have hp3 : w3.heap[p]? = some (.cells #[.int .i64 a.most, .slice ta K.length tc, .slice fa 0 fc, .int .i64 (a.T.length + 1)] 86) := by
      rw [hC3.heap _ (by simp only [upd_size, dr_heap]; exact hpl) fun h => hta p h rfl]; exact upd_same hpl
    have hpl3 := lt_of_heap hp3
    have hS4 := hS3.chg hC3 fun x hx h2 => dj x h2 hx
    have hCw := ((hEw.chg F).upd (b := p) (fun _ => fp) (.cells #[.int .i64 a.most, .slice ta K.length tc, .slice fa 0 fc, .int .i64 (a.T.length + 1)] 86)).trans hC3 fun b _ hb => ft b hb
    simp only [upd_dr, alloc_dr] at hr
    clear hC3 hT2 hS3 hEw
    refine w_ fun d => ?_
    have ha3 : ∀ g, blk a3 = some g → g ≠ p := fun g hg => hT3.ne hg hp3 (by decide)
    refine ⟨_, .inl ⟨_, rfl, rfl⟩, ⟨K ++ [(a.T.length : Int)], a3, c3, fa, fc, ?_, hT3.upd ha3, hS4.upd hfa, .inl fp, fun g hg => ?_, fun g hg => .inl (ff g hg), fun g hg h2 => ?_, fun k hk => ?_, hK2, fun m => ?_⟩, chg_⟩
    · rw [show (K ++ [(a.T.length : Int)]).length = K.length + 1 by simp, show ((a.takeN.T.length : Nat) : Int) = a.T.length + 1 by simp [Ar.takeN]]
      exact hA rfl
    · rcases hB3 g hg with h | ⟨h, h'⟩
      · exact .inl (ft g h)
      · exact .inr ⟨by omega, by simp only [upd_size]; exact h'⟩
    · rcases hB3 g hg with h | ⟨h, h'⟩
      · exact dj g h h2
      · have := hlt g (ff g h2); omega
    · rcases hk with hk | hk
      · have := hlt k hk; simp only [upd_size]; omega
      · exact hk.2
    · rw [hb7 m, List.mem_append, List.mem_singleton, hmem, Bool.or_eq_true, decide_eq_true_eq]
theorem raGive_calls {F : Nat → Prop} {w : World} {p : Nat} {a : Ar} (h : RaI F w p a) (ho : a.OK) (n : Int) :
    CallsR Tryz.prog 92 #[.pointer (some ⟨p, 0, none⟩), .int .i64 n] w fun r w' => (if a.has n then r = .int .i64 0 ∧ RaI (Grow F w w') w' p (a.give n) else r = .int .i64 1 ∧ RaI (Grow F w w') w' p a) ∧ Chg F w w' := by
  obtain ⟨K, ta, tc, fa, fc, h'⟩ := id h
  have hKl := h'.len ho
  have hKm := ho.many_le
  obtain ⟨hp, hT, hF, fp, ft, ff, dj, hlt, hnd, hmem⟩ := h'
  have hmost := ho.most
  have hlim := ho.lim
  have hfl := ho.frlen
  have hpl := lt_of_heap hp
  have hKb : K.length ≤ 20000 := by omega
  have hta : ∀ g, blk ta = some g → g ≠ p := fun g hg => hT.ne hg hp (by decide)
  have hfa : ∀ g, blk fa = some g → g ≠ p := fun g hg => hF.ne hg hp (by decide)
  have hgv := fun m (hn : a.has n = true) => Ar.has_give (m := m) hn
  have c1 := rin4_calls (c := tc) (a := ta) (l := K) (w := w) hT.inp (by omega) n
  have e : decide (n ∈ K) = a.has n := by
    have := hmem n
    cases hh : a.has n <;> rw [hh] at this <;> simpa using this
  rw [e] at c1
  clear e hKl ho
  cases hh : a.has n
  · rw [hh] at c1
    simp only [Bool.false_eq_true, ↓reduceIte]
    refine en2 Tryz.func92 Tryz.results92 mixed [] ?_
    intro e0 h0 h1
    refine w_ fun d => ?_
    refine callQ c1.call fun w1 hE1 hs1 => ?_
    refine w_ fun d => ?_
    exact ⟨⟨rfl, h.grown hE1⟩, chg_⟩
  · rw [hh] at c1
    simp only [↓reduceIte]
    have hgv := fun m => hgv m hh
    have c2 := fun u (hu : Ext w u) => rwo_calls (c := tc) (l := K) (Inp.ext hT.inp hu) (by omega) n
    clear h
    refine en2 Tryz.func92 Tryz.results92 mixed [] ?_
    intro e0 h0 h1
    refine w_ fun d => ?_
    refine callQ c1.call fun w1 hE1 hs1 => ?_
    refine w_ fun d => ?_
    refine (c2 _ (by assumption)).mono ?_
    rintro _ w2 ⟨a2, c2, rfl, hS2, hn2, hE2⟩
    have hEw : Ext w w2 := Ext.trans (by assumption) hE2
    have hs2 := sz_ hEw
    have hp2 := hEw.at hp
    have hpl2 := lt_of_heap hp2
    have hn2' : ∀ x, blk a2 = some x → w.heap.size ≤ x := fun x hx => by have := hn2 x hx; omega
    have hS2p : ∀ x, blk a2 = some x → x ≠ p := fun x hx => by have := hn2' x hx; omega
    obtain ⟨C, hC⟩ : ∃ C, (#[.int .i64 a.most, .slice a2 (wo K n).length c2, .slice fa a.Fr.length fc, .int .i64 a.T.length] : Array Value) = C := ⟨_, rfl⟩
    have hT2 := (hF.ext hEw).upd (b := p) (o := .cells C 86) hfa
    have hS3 := hS2.upd (b := p) (o := .cells C 86) hS2p
    obtain ⟨a3, c3, w3, hr, hT3, hC3, hs3, hB3⟩ := pushI hT2 (by omega) n
    simp only [upd_size] at hr hs3 hB3
    subst hC
    have hp3 : w3.heap[p]? = some (.cells #[.int .i64 a.most, .slice a2 (wo K n).length c2, .slice fa a.Fr.length fc, .int .i64 a.T.length] 86) := by
      rw [hC3.heap _ (by simp only [upd_size]; exact hpl2) fun h => hfa p h rfl]; exact upd_same hpl2
    have hpl3 := lt_of_heap hp3
    have hta2 : ∀ x, blk fa = some x → blk a2 ≠ some x := fun x hx h2 => by have := hn2' x h2; have := hF.lt hx; omega
    have hS4 := hS3.chg hC3 fun x hx h2 => hta2 x h2 hx
    have hCw := ((hEw.chg F).upd (b := p) (fun _ => fp) (.cells #[.int .i64 a.most, .slice a2 (wo K n).length c2, .slice fa a.Fr.length fc, .int .i64 a.T.length] 86)).trans hC3 fun b _ hb => ff b hb
    have hS2l : ∀ x, blk a2 = some x → x < w3.heap.size := fun x hx => hS4.lt hx
    clear hC3 hT2 hS3 hE2 c1 hn2
    refine w_ fun d => ?_
    have ha3 : ∀ g, blk a3 = some g → g ≠ p := fun g hg => hT3.ne hg hp3 (by decide)
    refine ⟨⟨rfl, wo K n, a2, c2, a3, c3, ?_, hS4.upd hS2p, ?_, .inl fp, fun g hg => ?_, fun g hg => ?_, fun g hg h2 => ?_, fun k hk => ?_, nodup_wo hnd, fun m => ?_⟩, chg_⟩
    · rw [show (a.give n).Fr.length = a.Fr.length + 1 by simp [Ar.give], show (a.give n).T.length = a.T.length by simp [Ar.give]]
      exact hA rfl
    · rw [show (a.give n).Fr = a.Fr ++ [n] by simp [Ar.give]]
      exact hT3.upd ha3
    · exact .inr ⟨hn2' g hg, by simp only [upd_size]; exact hS2l g hg⟩
    · rcases hB3 g hg with h | ⟨h, h'⟩
      · exact .inl (ff g h)
      · exact .inr ⟨by omega, by simp only [upd_size]; exact h'⟩
    · rcases hB3 g h2 with h | ⟨h, h'⟩
      · exact hta2 g h hg
      · have := hS2.lt hg; omega
    · rcases hk with hk | hk
      · have := hlt k hk; simp only [upd_size]; omega
      · exact hk.2
    · rw [hgv m, mem_wo, hmem, Bool.and_eq_true]; simp
end Go.Proofs.YtpeindhocndmnaaGreat

namespace Go.Proofs.YtpeindhocndmnaaGreat
open Go Go.Bx
set_option linter.unusedSimpArgs false
set_option linter.unusedVariables false
set_option maxRecDepth 100000
set_option maxHeartbeats 4000000
attribute [local irreducible] X XO XE XF XD XW thenX inX retX kN CallsR
structure RsC (sc : Array Value) (pa : Nat) (na : Option Addr) (nl nc : Nat) (oc : Array Value) : Prop where
  size : sc.size = 10
  c0 : sc[0]? = some (.pointer (some ⟨pa, 0, none⟩))
  c1 : sc[1]? = some (.slice na nl nc)
  co : sc.extract 2 10 = oc
theorem RsC.setN {sc oc : Array Value} {pa : Nat} {na : Option Addr} {nl nc : Nat} (h : RsC sc pa na nl nc oc) (na' : Option Addr) (nl' nc' : Nat) : RsC (sc.setIfInBounds 1 (.slice na' nl' nc')) pa na' nl' nc' oc := by
  have hs := h.size
  refine ⟨by rw [Array.size_setIfInBounds]; exact hs, by rw [Array.getElem?_setIfInBounds_ne (by omega)]; exact h.c0, by rw [Array.getElem?_setIfInBounds_self_of_lt (by omega)], ?_⟩
  rw [← h.co]
  apply Array.ext_getElem?
  intro j
  rw [Array.getElem?_extract, Array.getElem?_extract, Array.size_setIfInBounds, Array.getElem?_setIfInBounds_ne (by omega)]
theorem RsC.setO {sc oc oc' : Array Value} {pa : Nat} {na : Option Addr} {nl nc : Nat} (h : RsC sc pa na nl nc oc) (ho : oc'.size = 8) : RsC (wrN sc 2 oc'.toList) pa na nl nc oc' := by
  have hs := h.size
  have hl : oc'.toList.length = 8 := by rw [Array.length_toList]; exact ho
  have hg := fun j => wrN_get oc'.toList sc 2 j (by omega)
  refine ⟨by rw [wrN_size]; exact hs, by rw [hg, if_neg (by omega)]; exact h.c0, by rw [hg, if_neg (by omega)]; exact h.c1, ?_⟩
  apply Array.ext_getElem?
  intro j
  rw [Array.getElem?_extract, wrN_size, hs]
  by_cases hj : j < 8
  · rw [if_pos (by omega), hg, if_pos (by omega), show 2 + j - 2 = j by omega, Array.getElem?_toList]
  · rw [if_neg (by omega), Array.getElem?_eq_none (by omega)]
theorem RsC.at_ord {sc oc : Array Value} {pa : Nat} {na : Option Addr} {nl nc : Nat} (h : RsC sc pa na nl nc oc) {ord : List Int} (ho : OrdC ord oc) {k : Nat} {x : Int} (hx : ord[k]? = some x) : sc[2 + k]? = some (.int .i64 x) := by
  have h1 := ho.at_ k x hx
  rw [← h.co, Array.getElem?_extract] at h1
  split at h1
  · exact h1
  · cases h1
structure RsX (own : Nat → Nat) (w : World) (p : Nat) (s : Md) (pa : Nat) (na : Option Addr) (nc : Nat) (sc oc : Array Value) : Prop where
  at_ : w.heap[p]? = some (.cells sc 84)
  rc : RsC sc pa na s.N.length nc oc
  oc : OrdC s.ord oc
  op : own p = 1
  ar : RaI (owns own 2) w pa s.a
  no : SlN w na nc s.N
  on : ∀ g, blk na = some g → own g = 3
  lt : ∀ k, own k ≠ 0 → k < w.heap.size
def RsI (own : Nat → Nat) (w : World) (p : Nat) (s : Md) : Prop := ∃ pa na nc sc oc, RsX own w p s pa na nc sc oc
section
variable {own own1 own2 : Nat → Nat} {w w' w1 w2 : World} {p : Nat} {s : Md} {pa : Nat} {na : Option Addr} {nc : Nat} {sc oc : Array Value} {c : Nat}
theorem RsI.lt (h : RsI own w p s) : ∀ k, own k ≠ 0 → k < w.heap.size := by obtain ⟨_, _, _, _, _, h⟩ := h; exact h.lt
theorem RsI.op (h : RsI own w p s) : own p = 1 := by obtain ⟨_, _, _, _, _, h⟩ := h; exact h.op
theorem RsX.keep (h : RsX own w p s pa na nc sc oc) (hne : ∀ k, own k ≠ 0 → w'.heap[k]? = w.heap[k]?) (hs : w.heap.size ≤ w'.heap.size) : RsX own w' p s pa na nc sc oc := by
  have h1 := h.op
  exact ⟨by rw [hne p (by omega)]; exact h.at_, h.rc, h.oc, h.op, h.ar.keep (fun k hk => hne k (by unfold owns at hk; omega)) hs, Sl.keep h.no fun g hg => hne g (by have := h.on g hg; omega), h.on, fun k hk => Nat.lt_of_lt_of_le (h.lt k hk) hs⟩
theorem RsX.ext (h : RsX own w p s pa na nc sc oc) (hE : Ext w w') : RsX own w' p s pa na nc sc oc := h.keep (fun k hk => hE.heap k (h.lt k hk)) hE.size
theorem RsI.ext (h : RsI own w p s) (hE : Ext w w') : RsI own w' p s := by
  obtain ⟨pa, na, nc, sc, oc, h⟩ := h
  exact ⟨pa, na, nc, sc, oc, h.ext hE⟩
theorem RsX.turn (h : RsX own w p s pa na nc sc oc) (hC : Chg (owns own c) w w') (hc : c ≠ 0) :
    (c ≠ 1 → w'.heap[p]? = some (.cells sc 84)) ∧ ownUp own w w' c p = 1 ∧ (c ≠ 2 → RaI (owns (ownUp own w w' c) 2) w' pa s.a) ∧ (c ≠ 3 → SlN w' na nc s.N) ∧ (∀ g, blk na = some g → ownUp own w w' c g = 3) ∧ (∀ k, ownUp own w w' c k ≠ 0 → k < w'.heap.size) := by
  have kp : ∀ d, d ≠ c → ∀ k, owns own d k → k < w.heap.size → w'.heap[k]? = w.heap[k]? := fun d hd k hk hl => hC.heap k hl fun hf => hd (hk.symm.trans hf)
  refine ⟨fun h1 => ?_, ?_, fun h2 => ?_, fun h3 => ?_, fun g hg => ?_, ownUp_lt h.lt hC.size hc⟩
  · rw [kp 1 (Ne.symm h1) p h.op (lt_of_heap h.at_)]; exact h.at_
  · rw [ownUp_old (lt_of_heap h.at_)]; exact h.op
  · rw [owns_up_other h.lt (by decide) (Ne.symm h2)]
    exact h.ar.keep (fun k hk => kp 2 (Ne.symm h2) k hk (h.ar.lt k hk)) hC.size
  · exact Sl.keep h.no fun g hg => kp 3 (Ne.symm h3) g (h.on g hg) (Sl.lt h.no hg)
  · rw [ownUp_old (Sl.lt h.no hg)]; exact h.on g hg
theorem RsX.setAr (h : RsX own w p s pa na nc sc oc) {a : Ar} (hA : RaI (Grow (owns own 2) w w') w' pa a) (hC : Chg (owns own 2) w w') : RsX (ownUp own w w' 2) w' p ⟨a, s.N, s.ord⟩ pa na nc sc oc := by
  obtain ⟨h1, h2, h3, h4, h5, h6⟩ := h.turn hC (by decide)
  exact ⟨h1 (by decide), h.rc, h.oc, h2, by rw [owns_up_self]; exact hA, h4 (by decide), h5, h6⟩
theorem RsX.setNode {g : Nat} {cur : Array Value} (h : RsX own w p s pa (some ⟨g, 0, none⟩) nc sc oc) (hg : w.heap[g]? = some (.cells cur 90 (0, 0))) {k : Nat} (hk : k < s.N.length) (x : Nd) :
    RsX own (upd w g (.cells (((cur.setIfInBounds (k * 3) (.int .i64 x.1)).setIfInBounds (k * 3 + 1) (.int .i64 x.2.1)).setIfInBounds (k * 3 + 2) (.int .i64 x.2.2)) 90 (0, 0))) p ⟨s.a, s.N.set k x, s.ord⟩ pa (some ⟨g, 0, none⟩) nc sc oc ∧
    Chg (owns own 3) w (upd w g (.cells (((cur.setIfInBounds (k * 3) (.int .i64 x.1)).setIfInBounds (k * 3 + 1) (.int .i64 x.2.1)).setIfInBounds (k * 3 + 2) (.int .i64 x.2.2)) 90 (0, 0))) := by
  have hC := (Chg.refl (owns own 3) w).upd (b := g) (fun _ => h.on g rfl) (.cells (((cur.setIfInBounds (k * 3) (.int .i64 x.1)).setIfInBounds (k * 3 + 1) (.int .i64 x.2.1)).setIfInBounds (k * 3 + 2) (.int .i64 x.2.2)) 90 (0, 0))
  have hn := h.no.set hg hk x
  refine ⟨?_, hC⟩
  obtain ⟨h1, h2, h3, h4, h5, h6⟩ := h.turn hC (by decide)
  rw [ownUp_same (by simp only [upd_size])] at h2 h3 h5 h6
  exact ⟨h1 (by decide), by show RsC sc pa _ (s.N.set k x).length nc oc; rw [List.length_set]; exact h.rc, h.oc, h2, h3 (by decide), hn, h5, h6⟩
theorem RsX.pushN (h : RsX own w p s pa na nc sc oc) {x : Nd} {a' : Option Addr} {c' : Nat} (hS : SlN w1 a' c' (s.N ++ [x])) (hC : Chg (fun k => blk na = some k) w w1) (hB : ∀ g, blk a' = some g → blk na = some g ∨ (w.heap.size ≤ g ∧ g < w1.heap.size)) :
    w1.heap[p]? = some (.cells sc 84) ∧ RsX (ownUp own w w1 3) (upd w1 p (.cells (sc.setIfInBounds 1 (.slice a' (s.N.length + 1) c')) 84)) p ⟨s.a, s.N ++ [x], s.ord⟩ pa a' c' (sc.setIfInBounds 1 (.slice a' (s.N.length + 1) c')) oc ∧
    Chg (foot own) w (upd w1 p (.cells (sc.setIfInBounds 1 (.slice a' (s.N.length + 1) c')) 84)) := by
  have hC3 : Chg (owns own 3) w w1 := hC.mono fun k _ hk => h.on k hk
  obtain ⟨h1, h2, h3, h4, h5, h6⟩ := h.turn hC3 (by decide)
  have hp1 := h1 (by decide)
  have hpl := lt_of_heap hp1
  have hpo : ∀ k, ownUp own w w1 3 k ≠ 1 → (upd w1 p (.cells (sc.setIfInBounds 1 (.slice a' (s.N.length + 1) c')) 84)).heap[k]? = w1.heap[k]? := fun k hk => upd_other fun e => hk (by rw [← e]; exact h2)
  have on' : ∀ g, blk a' = some g → ownUp own w w1 3 g = 3 := fun g hg => by
    rcases hB g hg with h' | h'
    · exact h5 g h'
    · unfold ownUp; rw [if_pos h']
  refine ⟨hp1, ⟨upd_same hpl, ?_, h.oc, h2, (h3 (by decide)).keep (fun k hk => hpo k (by unfold owns at hk; omega)) (by rw [upd_size]; exact Nat.le_refl _), Sl.keep hS fun g hg => hpo g (by rw [on' g hg]; decide), on', fun k hk => by rw [upd_size]; exact h6 k hk⟩, ?_⟩
  · have := h.rc.setN a' (s.N.length + 1) c'
    rw [show (s.N ++ [x]).length = s.N.length + 1 by simp]
    exact this
  · exact (Chg.foot hC3 (by decide)).upd (fun _ => by unfold foot; rw [h.op]; decide) _
theorem RsX.setOrd {oc' : Array Value} (h : RsX own w p s pa na nc sc oc) {ord' : List Int} (ho : OrdC ord' oc') : RsX own (upd w p (.cells (wrN sc 2 oc'.toList) 84)) p ⟨s.a, s.N, ord'⟩ pa na nc (wrN sc 2 oc'.toList) oc' := by
  have hpl := lt_of_heap h.at_
  have hne : ∀ k, own k ≠ 1 → (upd w p (.cells (wrN sc 2 oc'.toList) 84)).heap[k]? = w.heap[k]? := fun k hk => upd_other fun e => hk (by rw [← e]; exact h.op)
  have hs : w.heap.size ≤ (upd w p (.cells (wrN sc 2 oc'.toList) 84)).heap.size := by rw [upd_size]; exact Nat.le_refl _
  exact ⟨upd_same hpl, h.rc.setO ho.size, ho, h.op, h.ar.keep (fun k hk => hne k (by unfold owns at hk; omega)) hs, Sl.keep h.no fun g hg => hne g (by have := h.on g hg; omega), h.on, fun k hk => by rw [upd_size]; exact h.lt k hk⟩
def TrS (own : Nat → Nat) (w : World) (p : Nat) (s' : Md) (w' : World) : Prop := ∃ own', RsI own' w' p s' ∧ Sw own w own' w'
theorem TrS.of_ext (h : RsI own w p s) (hE : Ext w w') : TrS own w p s w' := ⟨own, h.ext hE, Sw.of_ext hE⟩
theorem stN_ord2 {p : Nat} {sc oc : Array Value} {E : TypeId} {w : World} (hs : sc.size = 10) (ho : oc.size = 8) : stN Tryz.prog p 2 (vcs (.agg oc)) w (some (.cells sc E (0, 0))) = .ok () (upd w p (.cells (wrN sc 2 oc.toList) E (0, 0))) :=
  stN_cells (by show 2 + oc.toList.length ≤ sc.size; rw [Array.length_toList]; omega)
end
theorem nd_equal {a b c a' b' c' : Int} {w : World} : (Op.equal 90 (.agg #[.int .i64 a, .int .i64 b, .int .i64 c]) (.agg #[.int .i64 a', .int .i64 b', .int .i64 c'])).run Tryz.prog w = .ok (decide ((a, b, c) = ((a', b', c') : Nd))) w := by
  show (Op.equalIn (9999 + 1) _ _ _).run _ _ = _
  have hf : Tryz.prog.fieldsOf 90 = #[{ name := "Var", type := 3, offset := 0, embedded := false, tag := "", pkgPath := "", byteOffset := 0 }, { name := "Lo", type := 3, offset := 1, embedded := false, tag := "", pkgPath := "", byteOffset := 8 }, { name := "Hi", type := 3, offset := 2, embedded := false, tag := "", pkgPath := "", byteOffset := 16 }] := by kernel_rfl
  rw [run_equalIn_struct w 9999 90 _ _ (by kernel_rfl) (by kernel_rfl), hf]
  have p1 : ∀ (x y z : Int), (part 3 #[.int .i64 x, .int .i64 y, .int .i64 z] 0).run Tryz.prog w = .ok (.int .i64 x) w := fun x y z => part_one T3 rfl rfl
  have p2 : ∀ (x y z : Int), (part 3 #[.int .i64 x, .int .i64 y, .int .i64 z] 1).run Tryz.prog w = .ok (.int .i64 y) w := fun x y z => part_one T3 rfl rfl
  have p4 : ∀ (x y z : Int), (part 3 #[.int .i64 x, .int .i64 y, .int .i64 z] 2).run Tryz.prog w = .ok (.int .i64 z) w := fun x y z => part_one T3 rfl rfl
  have p3 : ∀ (x y : Int), (Op.equalIn 9999 3 (.int .i64 x) (.int .i64 y)).run Tryz.prog w = .ok (x == y) w := fun x y => run_equalIn_int w 9998 3 .i64 .i64 x y T3.und
  have n1 : ("Var" ≠ "_") = True := by decide
  have n2 : ("Lo" ≠ "_") = True := by decide
  have n3 : ("Hi" ≠ "_") = True := by decide
  simp only [Op.eqFields, n1, n2, n3, if_true, Sem.run_bind, p1, p2, p3, p4, Result.andThen_ok, Sem.run_ite, Sem.run_pure]
  by_cases h1 : a = a'
  · by_cases h2 : b = b'
    · by_cases h3 : c = c'
      · simp [h1, h2, h3]
      · have hb : (c == c') = false := by simpa using h3
        simp [h1, h2, h3, hb]
    · have hb : (b == b') = false := by simpa using h2
      simp [h1, h2, hb]
  · have ha : (a == a') = false := by simpa using h1
    simp [h1, ha]
theorem nd_eql {x y : Operand} {a b c a' b' c' : Int} {w : World} : binR Tryz.prog .eql 90 x y (.agg #[.int .i64 a, .int .i64 b, .int .i64 c]) (.agg #[.int .i64 a', .int .i64 b', .int .i64 c']) w = .ok (.bool (decide ((a, b, c) = ((a', b', c') : Nd)))) w :=
  binR_eqlA (by kernel_rfl) nd_equal
theorem nd_neq {x y : Operand} {a b c a' b' c' : Int} {w : World} : binR Tryz.prog .neq 90 x y (.agg #[.int .i64 a, .int .i64 b, .int .i64 c]) (.agg #[.int .i64 a', .int .i64 b', .int .i64 c']) w = .ok (.bool (!decide ((a, b, c) = ((a', b', c') : Nd)))) w :=
  binR_neqA (by kernel_rfl) nd_equal
attribute [push_cast] nd_eql nd_neq eq_self
end Go.Proofs.YtpeindhocndmnaaGreat

namespace Go.Proofs.YtpeindhocndmnaaGreat
open Go Go.Bx
set_option linter.unusedSimpArgs false
set_option linter.unusedVariables false
set_option maxRecDepth 100000
set_option maxHeartbeats 4000000
attribute [local irreducible] X XO XE XF XD XW thenX inX retX kN CallsR
section
variable {own own1 own2 : Nat → Nat} {w w' w1 w2 : World} {p : Nat} {s : Md} {n v x y : Int}
theorem refLevel_oc {ord : List Int} {oc : Array Value} (h : OrdC ord oc) (v : Int) : Sure Tryz.prog 44 #[.agg oc, .int .i64 v] (.int .i64 (lvl ord v)) := by
  have := refLevel_calls ord h.len v
  rw [h.agg] at this; exact this
theorem wf_N (W : s.WF) : s.N.length ≤ 20000 := by
  have h1 := W.len
  have h2 := W.ar.lim
  have h3 := W.ar.most
  omega
theorem rsHas_calls (h : RsI own w p s) (W : s.WF) (n : Int) (hn : n ≤ 9223372036854775807) : Quiet Tryz.prog 85 #[.pointer (some ⟨p, 0, none⟩), .int .i64 n] w (.bool (s.has n)) := by
  intro u hu
  obtain ⟨pa, na, nc, sc, oc, h⟩ := h.ext hu
  clear hu
  have hp := h.at_
  have c1 := h.rc.c0
  have hsz := h.rc.size
  have c2 := raHas_calls h.ar W.ar (n - 2)
  have hm : (decide (2 ≤ n) && s.a.has (n - 2)) = s.has n := rfl
  by_cases h2 : 2 ≤ n
  · have hm : s.a.has (n - 2) = s.has n := by rw [← hm]; simp [h2]
    rw [hm] at c2
    clear h hm W
    refine en2 Tryz.func85 Tryz.results85 mixed [] ?_
    intro e0 h0 h1
    refine w_ fun d => ?_
    refine qq c2 fun w1 hE1 hs1 => ?_
    refine w_ fun d => ?_
    exact ⟨rfl, ext_⟩
  · have hm : s.has n = false := by rw [← hm]; simp [h2]
    rw [hm]
    clear h hm W c2
    refine en2 Tryz.func85 Tryz.results85 mixed [] ?_
    intro e0 h0 h1
    refine w_ fun d => ?_
    exact ⟨rfl, ext_⟩
theorem rsNode_calls (h : RsI own w p s) (W : s.WF) (n : Int) (hn : n ≤ 9223372036854775807) : Quiet Tryz.prog 51 #[.pointer (some ⟨p, 0, none⟩), .int .i64 n] w (.tuple #[ndV (s.node n).1, .bool (s.node n).2]) := by
  intro u hu
  have h := h.ext hu
  clear hu
  have c1 := rsHas_calls h W n hn
  obtain ⟨pa, na, nc, sc, oc, h⟩ := h
  unfold Md.node
  cases hh : s.has n
  · rw [hh] at c1
    simp only [Bool.false_eq_true, ↓reduceIte]
    clear h W hh
    refine en2 Tryz.func51 Tryz.results51 mixed [] ?_
    intro e0 h0 h1
    refine w_ fun d => ?_
    refine qq c1 fun w1 hE1 hs1 => ?_
    refine w_ fun d => ?_
    refine rcuA ?_
    exact ⟨rfl, ext_⟩
  · rw [hh] at c1
    simp only [↓reduceIte]
    have hx := W.get hh
    have hl := W.lt hh
    obtain ⟨x, hxx⟩ : ∃ x, s.nd n = x := ⟨_, rfl⟩
    rw [hxx] at hx ⊢
    obtain ⟨v, lo, hi⟩ := x
    obtain ⟨g, cur, rfl, hg, hc, hlt, x0, x1, x2, hsz3, hex⟩ := h.no.at hx
    have hp := h.at_
    have c2 := h.rc.c1
    have hsz := h.rc.size
    have hpl := lt_of_heap hp
    have hgl := lt_of_heap hg
    have hl1 := hl.2
    have hl0 : 0 ≤ n - 2 := by omega
    clear h W hh hxx hx hl
    refine en2 Tryz.func51 Tryz.results51 mixed [] ?_
    intro e0 h0 h1
    refine w_ fun d => ?_
    refine qq c1 fun w1 hE1 hs1 => ?_
    have hs2 := sz_ hE1
    refine w_ fun d => ?_
    refine rcuA ?_
    exact ⟨rfl, ext_⟩
theorem rsAll_calls (h : RsI own w p s) (W : s.WF) : CallsR Tryz.prog 46 #[.pointer (some ⟨p, 0, none⟩)] w fun r w' => ∃ a' cap', r = .slice a' s.all.length cap' ∧ SlC w' 3 a' cap' (ints s.all) ∧ (∀ g, blk a' = some g → w.heap.size ≤ g) ∧ Ext w w' := by
  have hN := wf_N W
  have hh := fun k : Nat => rsHas_calls h W ((k : Int) + 2)
  obtain ⟨pa, na, nc, sc, oc, h⟩ := h
  have hp := h.at_
  have c2 := h.rc.c1
  have hsz := h.rc.size
  have hpl := lt_of_heap hp
  clear h W
  refine en1 Tryz.func46 Tryz.results46 mixed [] ?_
  intro e0 h0
  refine w_ fun d => ?_
  refine lo_ (fun W e w' => ∃ (k : Nat) (a' : Option Addr) (cap' : Nat) (m : List Int), k ≤ s.N.length ∧ e 4 = .int .i64 ((k : Int) + 2) ∧ e 3 = .slice a' m.length cap' ∧ SlC w' 3 a' cap' (ints m) ∧ (∀ g, blk a' = some g → w.heap.size ≤ g) ∧ Box (m = s.allTo k) ∧ Ext w w') (fun e _ => s.N.length + 2 - nat (e 4)) ?_ ?_
  · exact ⟨0, none, 0, [], by omega, eA rfl, eA rfl, SlC.nil _ _, (fun g h => by cases h), ⟨rfl⟩, ext_⟩
  rintro e w1 hf ⟨k, a', cap', m, hk, h4, h3, hS, hn, ⟨hi⟩, hE⟩
  have hs1 := sz_ hE
  have hml : m.length ≤ k := by rw [hi]; exact allTo_len
  have hpE := hE.at hp
  by_cases hlt : k < s.N.length
  · have hsc := allTo_succ (s := s) (k := k)
    have hq := (hh k (by omega)).at hE
    have e1 : (k : Int) + 2 + 1 = ((k + 1 : Nat) : Int) + 2 := by omega
    have e2 : (k : Int) + 2 + 1 - 2 = (k : Int) + 1 := by omega
    cases hb : s.has ((k : Int) + 2)
    · rw [hb] at hq hsc
      have hi' : Box (m = s.allTo (k + 1)) := ⟨by rw [hsc, hi]; rfl⟩
      clear hi hsc hh hb
      refine w_ fun d => ?_
      refine qq hq fun w2 hE2 hs2 => ?_
      have hEw2 := hE.trans hE2
      have hS2 := hS.ext hE2
      refine w_ fun d => ?_
      exact ⟨⟨k + 1, a', cap', m, by omega, by rw [← e1]; exact eA rfl, eA rfl, hS2, hn, hi', hEw2⟩, mA⟩
    · rw [hb] at hq hsc
      have hi' : Box (m ++ [(k : Int) + 2] = s.allTo (k + 1)) := ⟨by rw [hsc, hi]; rfl⟩
      clear hi hsc hh hb
      refine w_ fun d => ?_
      refine qq hq fun w2 hE2 hs2 => ?_
      have hEw2 := hE.trans hE2
      have hS2 := hS.ext hE2
      obtain ⟨a3, c3, w3, hr, hS3, hC3, hs3, hB3⟩ := pushI hS2 (by omega) ((k : Int) + 2)
      have hE3 : Ext w w3 := hC3.toExt hEw2 fun g hg hb => by have := hn g hb; omega
      have hn3 : ∀ g, blk a3 = some g → w.heap.size ≤ g := fun g hg => by
        rcases hB3 g hg with h | ⟨h, _⟩
        · exact hn g h
        · omega
      clear hS hS2 hC3 hB3 hn
      refine w_ fun d => ?_
      exact ⟨⟨k + 1, a3, c3, m ++ [(k : Int) + 2], by omega, by rw [← e1]; exact eA rfl, by rw [List.length_append]; exact eA rfl, hS3, hn3, hi', hE3⟩, mA⟩
  · obtain rfl : k = s.N.length := by omega
    rw [allTo_all] at hi
    subst hi
    clear hh
    refine w_ fun d => ?_
    exact ⟨a', cap', rfl, hS, hn, ext_⟩
theorem rsRoom_calls (h : RsI own w p s) (W : s.WF) : Quiet Tryz.prog 49 #[.pointer (some ⟨p, 0, none⟩)] w (.int .i64 s.room) := by
  intro u hu
  obtain ⟨pa, na, nc, sc, oc, h⟩ := h.ext hu
  clear hu
  have hp := h.at_
  have c1 := h.rc.c0
  have hsz := h.rc.size
  obtain ⟨K, ta, tc, fa, fc, hA⟩ := h.ar
  have hKl := hA.len W.ar
  have hpa := hA.at_
  have hm := W.ar.many_le
  have hmo := W.ar.most
  have hr : s.a.most - K.length = s.room := by rw [hKl]; rfl
  have hk : (K.length : Int) ≤ 20000 := by omega
  have hr0 : -20000 ≤ s.room ∧ s.room ≤ 20000 := by unfold Md.room; omega
  clear h W hA hKl
  refine en1 Tryz.func49 Tryz.results49 mixed [] ?_
  intro e0 h0
  refine w_ fun d => ?_
  exact ⟨rfl, ext_⟩
theorem rsBehind_calls (h : RsI own w p s) (W : s.WF) (n v : Int) (hn : n ≤ 9223372036854775807) : Quiet Tryz.prog 108 #[.pointer (some ⟨p, 0, none⟩), .int .i64 n, .int .i64 v] w (.bool (s.below n v)) := by
  intro u hu
  have h := h.ext hu
  clear hu
  have c1 := rsNode_calls h W n hn
  obtain ⟨pa, na, nc, sc, oc, h⟩ := h
  have hbd : s.below n v = (decide (n = 0) || (decide (n = 1) || (s.has n && decide (lvl s.ord v < lvl s.ord (s.nd n).1)))) := rfl
  unfold Md.node at c1
  cases hh : s.has n
  · rw [hh] at c1 hbd
    simp only [Bool.false_eq_true, ↓reduceIte, ndV] at c1
    have : s.below n v = ((n == 0) || (n == 1)) := by rw [hbd]; simp; rfl
    rw [this]
    clear h W hh hbd this
    by_cases e0 : n = 0
    · subst e0
      refine en3 Tryz.func108 Tryz.results108 mixed [] ?_
      intro e0 h0 h1 h2
      refine w_ fun d => ?_
      refine qq c1 fun w1 hE1 hs1 => ?_
      refine w_ fun d => ?_
      exact ⟨rfl, ext_⟩
    · have b0 : (n == 0) = false := by simpa using e0
      rw [b0]
      clear e0
      refine en3 Tryz.func108 Tryz.results108 mixed [] ?_
      intro e0 h0 h1 h2
      refine w_ fun d => ?_
      refine qq c1 fun w1 hE1 hs1 => ?_
      refine w_ fun d => ?_
      exact ⟨rfl, ext_⟩
  · rw [hh] at c1 hbd
    simp only [↓reduceIte, ndV] at c1
    have h2' := Md.has_ge hh
    obtain ⟨z, hz⟩ : ∃ z, s.nd n = z := ⟨_, rfl⟩
    rw [hz] at c1 hbd
    obtain ⟨x, lo, hi⟩ := z
    have : s.below n v = decide (lvl s.ord v < lvl s.ord x) := by
      rw [hbd]
      have e0 : ¬ n = 0 := by omega
      have e1 : ¬ n = 1 := by omega
      simp [e0, e1]
    rw [this]
    have hp := h.at_
    have co := h.rc.co
    have hsz := h.rc.size
    have hpl := lt_of_heap hp
    have l1 := refLevel_oc h.oc x
    have l2 := refLevel_oc h.oc v
    dsimp only at c1
    clear h W hh hbd this hz
    refine en3 Tryz.func108 Tryz.results108 mixed [] ?_
    intro e0 h0 h1 h2
    refine w_ fun d => ?_
    refine qq c1 fun w1 hE1 hs1 => ?_
    have hpE := hE1.at hp
    have hpl1 := lt_of_heap hpE
    refine w_ fun d => ?_
    intro w2 hE2 hs2
    refine w_ fun d => ?_
    exact ⟨rfl, ext_⟩
theorem rsOf_calls (h : RsI own w p s) (W : s.WF) (n v : Int) (hn : n ≤ 9223372036854775807) : Quiet Tryz.prog 80 #[.pointer (some ⟨p, 0, none⟩), .int .i64 n, .int .i64 v] w (.bool (s.of n v)) := by
  intro u hu
  have h := h.ext hu
  clear hu
  have c1 := rsNode_calls h W n hn
  unfold Md.node at c1
  unfold Md.of
  cases hh : s.has n
  · rw [hh] at c1
    simp only [Bool.false_eq_true, ↓reduceIte, ndV, Bool.false_and] at c1 ⊢
    clear h W hh
    refine en3 Tryz.func80 Tryz.results80 mixed [] ?_
    intro e0 h0 h1 h2
    refine w_ fun d => ?_
    refine qq c1 fun w1 hE1 hs1 => ?_
    refine w_ fun d => ?_
    exact ⟨rfl, ext_⟩
  · rw [hh] at c1
    simp only [↓reduceIte, ndV, Bool.true_and] at c1 ⊢
    obtain ⟨z, hz⟩ : ∃ z, s.nd n = z := ⟨_, rfl⟩
    rw [hz] at c1 ⊢
    obtain ⟨x, lo, hi⟩ := z
    have e : decide (x = v) = (x == v) := rfl
    dsimp only at c1 ⊢
    rw [e]
    clear h W hh hz e
    refine en3 Tryz.func80 Tryz.results80 mixed [] ?_
    intro e0 h0 h1 h2
    refine w_ fun d => ?_
    refine qq c1 fun w1 hE1 hs1 => ?_
    refine w_ fun d => ?_
    exact ⟨rfl, ext_⟩
theorem rsSide_calls (h : RsI own w p s) (W : s.WF) (n y b : Int) (hn : n ≤ 9223372036854775807) : Quiet Tryz.prog 83 #[.pointer (some ⟨p, 0, none⟩), .int .i64 n, .int .i64 y, .int .i64 b] w (.int .i64 (s.side n y (b != 0))) := by
  intro u hu
  have h := h.ext hu
  clear hu
  have c1 := rsOf_calls h W n y hn
  obtain ⟨pa, na, nc, sc, oc, h⟩ := h
  unfold Md.side
  cases hh : s.of n y
  · rw [hh] at c1
    simp only [Bool.false_eq_true, ↓reduceIte]
    clear h W hh
    refine en4 Tryz.func83 Tryz.results83 mixed [] ?_
    intro e0 h0 h1 h2 h3
    refine w_ fun d => ?_
    refine qq c1 fun w1 hE1 hs1 => ?_
    refine w_ fun d => ?_
    exact ⟨rfl, ext_⟩
  · rw [hh] at c1
    have hhas := (Md.of_iff.1 hh).1
    have hx := W.get hhas
    have hl := W.lt hhas
    obtain ⟨z, hz⟩ : ∃ z, s.nd n = z := ⟨_, rfl⟩
    rw [hz] at hx ⊢
    obtain ⟨v, lo, hi⟩ := z
    obtain ⟨g, cur, rfl, hg, hc, hlt, x0, x1, x2, hsz3, hex⟩ := h.no.at hx
    have hp := h.at_
    have c2 := h.rc.c1
    have hsz := h.rc.size
    have hpl := lt_of_heap hp
    have hgl := lt_of_heap hg
    have hl1 := hl.2
    have hl0 : 0 ≤ n - 2 := by omega
    simp only [↓reduceIte]
    clear h W hh hz hx hl hhas
    by_cases e : b = 0
    · subst e
      refine en4 Tryz.func83 Tryz.results83 mixed [] ?_
      intro e0 h0 h1 h2 h3
      refine w_ fun d => ?_
      refine qq c1 fun w1 hE1 hs1 => ?_
      refine w_ fun d => ?_
      exact ⟨rfl, ext_⟩
    · have e' : (b == 0) = false := by simpa using e
      have e2 : (b != 0) = true := by simpa using e
      rw [e2]
      simp only [↓reduceIte]
      clear e
      refine en4 Tryz.func83 Tryz.results83 mixed [] ?_
      intro e0 h0 h1 h2 h3
      refine w_ fun d => ?_
      refine qq c1 fun w1 hE1 hs1 => ?_
      refine w_ fun d => ?_
      exact ⟨rfl, ext_⟩
end
end Go.Proofs.YtpeindhocndmnaaGreat

namespace Go.Proofs.YtpeindhocndmnaaGreat
open Go Go.Bx
set_option linter.unusedSimpArgs false
set_option linter.unusedVariables false
set_option maxRecDepth 100000
set_option maxHeartbeats 4000000
attribute [local irreducible] X XO XE XF XD XW thenX inX retX kN CallsR
theorem rin7_calls {w : World} {a : Option Addr} {c : Nat} {l : List Int} (hI : InI w a l) (hl : l.length ≤ 1099511627776) (n : Int) : Quiet Tryz.prog 84 #[.slice a l.length c, .int .i64 n] w (.bool (decide (n ∈ l))) := by
  intro u hu
  have hI := Inp.ext hI hu
  clear hu
  refine en2 Tryz.func84 Tryz.results84 mixed [] ?_
  intro e0 h0 h1
  refine w_ fun d => ?_
  refine lo_ (fun W e w' => ∃ k : Nat, k ≤ l.length ∧ e 5 = .int .i64 k ∧ Box (∀ j, j < k → l[j]? ≠ some n) ∧ Ext W w') (fun e _ => l.length - nat (e 5)) ?_ ?_
  · exact ⟨0, by omega, eA rfl, ⟨fun j hj => by omega⟩, ext_⟩
  rintro e w1 hf ⟨k, hk, h5, ⟨hi⟩, hE⟩
  have hs1 := sz_ hE
  have hI1 := Inp.ext hI hE
  clear hI
  by_cases hlt : k < l.length
  · obtain ⟨x, hx⟩ : ∃ x, l[k]? = some x := ⟨l[k], List.getElem?_eq_getElem (by omega)⟩
    rcases InI.at hI1 with rfl | ⟨b, o, cs, E, fz, rfl, hb, hat⟩
    · simp at hlt
    have hat := hat k x hx
    clear hI1
    by_cases e : x = n
    · subst e
      have hm : decide (x ∈ l) = true := decide_eq_true (List.mem_of_getElem? hx)
      clear hx hi
      refine w_ fun d => ?_
      exact ⟨by rw [hm], ext_⟩
    · have hi' : Box (∀ j, j < k + 1 → l[j]? ≠ some n) := ⟨fun j h => by
        by_cases e2 : j = k
        · subst e2; rw [hx]; simpa using e
        · exact hi j (by omega)⟩
      have e' : (x == n) = false := by simpa using e
      clear hx hi
      refine w_ fun d => ?_
      exact ⟨⟨k + 1, by omega, eA rfl, hi', ext_⟩, mA⟩
  · have hm := mem_not (by omega) hi
    obtain rfl : k = l.length := by omega
    clear hi hI1
    refine w_ fun d => ?_
    exact ⟨by rw [hm], ext_⟩
section
variable {own own1 own2 : Nat → Nat} {w w' w1 w2 : World} {p : Nat} {s : Md} {n v x y lo hi : Int} {but : List Int}
def findP (s : Md) (but : List Int) (x : Nd) (k : Nat) : Bool := decide (s.N[k]? = some x) && (s.a.has (k : Nat) && !decide (((k : Nat) : Int) + 2 ∈ but))
theorem find_first {x : Nd} {k : Nat} (hk : k < s.N.length) (h : findP s but x k = true) (hno : ∀ j, j < k → findP s but x j = false) : s.find but x = some ((k : Int) + 2) := by
  unfold Md.find
  have : (List.range s.N.length).find? (findP s but x) = some k := by
    rw [List.find?_range_eq_some]
    exact ⟨h, by simpa using hk, fun j hj => by rw [hno j hj]; rfl⟩
  unfold findP at this
  rw [this]; rfl
theorem find_no {x : Nd} (hno : ∀ j, j < s.N.length → findP s but x j = false) : s.find but x = none := by
  unfold Md.find
  have : (List.range s.N.length).find? (findP s but x) = none := by
    rw [List.find?_eq_none]
    intro j hj
    rw [hno j (by simpa using hj)]; simp
  unfold findP at this
  rw [this]; rfl
theorem SlN.app1 {a b0 : Option Addr} {cap c : Nat} {N : List Nd} (h : SlN w a cap N) (hm : N.length ≤ 1000000) (x : Nd) (hI : Inp w 3 b0 [rowN x]) :
    ∃ a' cap' w', apR Tryz.prog 82 (.slice a N.length cap) (.slice b0 1 c) w = .ok (.slice a' (N.length + 1) cap') w' ∧
      SlN w' a' cap' (N ++ [x]) ∧ Chg (fun k => blk a = some k) w w' ∧ (∀ g, blk a' = some g → blk a = some g ∨ (w.heap.size ≤ g ∧ g < w'.heap.size)) := by
  obtain ⟨a2, c2, w2, hr, hS2, hC2, hB2⟩ := Sl.append (news := [rowN x]) (c := c) h T82 (TI.mk' (sz := 3) (by_ := 24) (z := Value.agg #[Value.int IntKind.i64 0, Value.int IntKind.i64 0, Value.int IntKind.i64 0]) Tryz.underlying90 (by kernel_rfl)) rfl (by decide) hI (fun r hr => by rw [List.mem_singleton] at hr; subst hr; rfl) rfl (by rw [List.length_map]; simp; omega) (by decide)
  rw [List.length_map, show ((N.map rowN) ++ [rowN x]).length = N.length + 1 by simp] at hr
  exact ⟨a2, c2, w2, hr, by unfold SlN; rw [List.map_append]; exact hS2, hC2, hB2⟩
theorem rsMk_calls {aB : Option Addr} {cB : Nat} (h : RsI own w p s) (W : s.WF) (hI : InI w aB but) (hbl : but.length ≤ 1000000) (hlo : lo ≤ 9223372036854775807) (hhi : hi ≤ 9223372036854775807) :
    CallsR Tryz.prog 82 #[.pointer (some ⟨p, 0, none⟩), .int .i64 v, .int .i64 lo, .int .i64 hi, .slice aB but.length cB] w fun r w' => r = .tuple #[.int .i64 (s.mk' but v lo hi).1.1, .int .i64 (s.mk' but v lo hi).1.2] ∧ TrS own w p (s.mk' but v lo hi).2 w' := by
  have b0 := rsBehind_calls h W lo v hlo
  have b1 := rsBehind_calls h W hi v hhi
  by_cases hv : 0 ≤ v ∧ v < 8
  rotate_left
  · have e : s.mk' but v lo hi = ((0, 1), s) := by unfold Md.mk'; rw [if_pos (by simp; omega)]
    rw [e]
    clear b0 b1 hI W e
    by_cases hv0 : 0 ≤ v
    · have hv1 : ¬ v < 8 := fun h => hv ⟨hv0, h⟩
      clear hv
      refine en5 Tryz.func82 Tryz.results82 mixed [(1015, [4, 1010])] ?_
      intro e0 h0 h1 h2 h3 h4
      refine w_ fun d => ?_
      exact ⟨rfl, TrS.of_ext h ext_⟩
    · clear hv
      refine en5 Tryz.func82 Tryz.results82 mixed [(1015, [4, 1010])] ?_
      intro e0 h0 h1 h2 h3 h4
      refine w_ fun d => ?_
      exact ⟨rfl, TrS.of_ext h ext_⟩
  obtain ⟨hv0, hv1⟩ := hv
  cases e0 : s.below lo v
  · have e : s.mk' but v lo hi = ((0, 1), s) := by unfold Md.mk'; rw [if_pos (by simp [e0])]
    rw [e]
    rw [e0] at b0
    clear hI W e e0 b1
    refine en5 Tryz.func82 Tryz.results82 mixed [(1015, [4, 1010])] ?_
    intro e0 h0 h1 h2 h3 h4
    refine w_ fun d => ?_
    refine qq b0 fun w1 hE1 hs1 => ?_
    refine w_ fun d => ?_
    exact ⟨rfl, TrS.of_ext h ext_⟩
  cases e1 : s.below hi v
  · have e : s.mk' but v lo hi = ((0, 1), s) := by unfold Md.mk'; rw [if_pos (by simp [e1])]
    rw [e]
    rw [e0] at b0
    rw [e1] at b1
    clear hI W e e0 e1
    refine en5 Tryz.func82 Tryz.results82 mixed [(1015, [4, 1010])] ?_
    intro e0 h0 h1 h2 h3 h4
    refine w_ fun d => ?_
    refine qq b0 fun w1 hE1 hs1 => ?_
    refine w_ fun d => ?_
    refine qq b1 fun w2 hE2 hs2 => ?_
    refine w_ fun d => ?_
    exact ⟨rfl, TrS.of_ext h ext_⟩
  rw [e0] at b0
  rw [e1] at b1
  by_cases elh : lo = hi
  · have e : s.mk' but v lo hi = ((lo, 0), s) := by unfold Md.mk'; rw [if_neg (by simp [e0, e1]; omega), if_pos elh]
    rw [e]
    subst elh
    clear hI W e e0 e1
    refine en5 Tryz.func82 Tryz.results82 mixed [(1015, [4, 1010])] ?_
    intro e0 h0 h1 h2 h3 h4
    refine w_ fun d => ?_
    refine qq b0 fun w1 hE1 hs1 => ?_
    refine w_ fun d => ?_
    refine qq b1 fun w2 hE2 hs2 => ?_
    refine w_ fun d => ?_
    exact ⟨rfl, TrS.of_ext h ext_⟩
  have elh' : (lo == hi) = false := by simpa using elh
  have hmk : s.mk' but v lo hi = match s.find but (v, lo, hi) with
      | some n => ((n, 0), s)
      | none => match s.a.take with
        | none => ((0, 2), s)
        | some (k, b) => ((k + 2, 0), s.add k b (v, lo, hi)) := by
    unfold Md.mk'; rw [if_neg (by simp [e0, e1]; omega), if_neg elh]; rfl
  have hN := wf_N W
  have hh := fun u (hu : Ext w u) (k : Nat) (hk : k < 30000) => rsHas_calls (h.ext hu) W ((k : Int) + 2) (by omega)
  have hin := fun u (hu : Ext w u) (k : Nat) => rin7_calls (c := cB) (Inp.ext hI hu) (by omega) ((k : Int) + 2)
  clear e0 e1 elh
  refine en5 Tryz.func82 Tryz.results82 mixed [(1015, [4, 1010])] ?_
  intro e0 h0 h1 h2 h3 h4
  refine w_ fun d => ?_
  refine qq b0 fun w1 hE1 hs1 => ?_
  refine w_ fun d => ?_
  refine qq b1 fun w2 hE2 hs2 => ?_
  have hE2w := hE1.trans hE2
  refine w_ fun d => ?_
  refine at_w fun W0 hW0 => ?_
  have hEW : Ext w W0 := by rw [hW0]; exact ext_
  have hbx : W0.heap[w2.heap.size]? = some (.cells #[.int .i64 v, .int .i64 lo, .int .i64 hi] 90) := by rw [hW0]; exact hA rfl
  have hbo : own w2.heap.size = 0 := by
    cases ho : own w2.heap.size with
    | zero => rfl
    | succ m => have := h.lt w2.heap.size (by omega); have := hE2w.size; omega
  have hw2 := hE2w.size
  clear hW0 hE2 hE1 hs1 hs2
  clear w1
  refine lo_ (fun _ e w' => ∃ k : Nat, k ≤ s.N.length ∧ e 13 = .int .i64 ((k : Int) + 2) ∧ Box (∀ j, j < k → findP s but (v, lo, hi) j = false) ∧ Ext W0 w') (fun e _ => s.N.length + 2 - nat (e 13)) ?_ ?_
  · exact ⟨0, by omega, eA rfl, ⟨fun j hj => by omega⟩, ext_⟩
  rintro e u hf ⟨k, hk, h13, ⟨hno⟩, hEu⟩
  have hEwu := hEW.trans hEu
  have hbu := hEu.at hbx
  have hblu := lt_of_heap hbu
  obtain ⟨pa, na, nc, sc, oc, hX⟩ := h.ext hEwu
  have hp := hX.at_
  have cn := hX.rc.c1
  have ca := hX.rc.c0
  have hsz := hX.rc.size
  have hpl := lt_of_heap hp
  by_cases hlt : k < s.N.length
  · obtain ⟨z, hz⟩ : ∃ z, s.N[k]? = some z := ⟨s.N[k], List.getElem?_eq_getElem hlt⟩
    obtain ⟨a, b, c⟩ := z
    have q1 := (hh _ hEwu k (by omega))
    have q2 := (hin _ hEwu k)
    have hfp : findP s but (v, lo, hi) k = (decide ((a, b, c) = ((v, lo, hi) : Nd)) && (s.has ((k : Int) + 2) && !decide (((k : Nat) : Int) + 2 ∈ but))) := by
      unfold findP; rw [hz, Md.has_add]; simp
    have hno1 : findP s but (v, lo, hi) k = false → Box (∀ j, j < k + 1 → findP s but (v, lo, hi) j = false) := fun hb => ⟨fun j hj => by
      by_cases e2 : j = k
      · subst e2; exact hb
      · exact hno j (by omega)⟩
    obtain ⟨g, cur, rfl, hg, hc, _, x0, x1, x2, hsz3, hex⟩ := hX.no.at hz
    have hgl := lt_of_heap hg
    have e1 : (k : Int) + 2 + 1 = ((k + 1 : Nat) : Int) + 2 := by omega
    have e2 : (k : Int) + 2 - 2 = k := by omega
    by_cases eN : (a, b, c) = ((v, lo, hi) : Nd)
    · cases hhk : s.has ((k : Int) + 2)
      · rw [hhk] at q1
        have hno2 := hno1 (by rw [hfp, hhk]; simp)
        cases eN
        clear hno hno1 hfp hX hh hin hI W hz hmk
        refine w_ fun d => ?_
        intro u2 hE2' hs2'
        refine w_ fun d => ?_
        exact ⟨⟨k + 1, by omega, by rw [← e1]; exact eA rfl, hno2, ext_⟩, mA⟩
      · rw [hhk] at q1
        cases hib : decide (((k : Nat) : Int) + 2 ∈ but)
        · rw [hib] at q2
          have hfd := find_first hlt (by rw [hfp, hhk, hib, eN]; simp) hno
          rw [hfd] at hmk
          rw [hmk]
          cases eN
          clear hno hno1 hfp hX hh hin hI W hz hmk hib
          refine w_ fun d => ?_
          intro u2 hE2' hs2'
          refine w_ fun d => ?_
          exact ⟨rfl, TrS.of_ext h ext_⟩
        · rw [hib] at q2
          have hno2 := hno1 (by rw [hfp, hhk, hib]; simp)
          cases eN
          clear hno hno1 hfp hX hh hin hI W hz hmk hib
          refine w_ fun d => ?_
          intro u2 hE2' hs2'
          refine w_ fun d => ?_
          exact ⟨⟨k + 1, by omega, by rw [← e1]; exact eA rfl, hno2, ext_⟩, mA⟩
    · have hno2 := hno1 (by rw [hfp]; simp [eN])
      clear hno hno1 hfp hX hh hin hI W hz hmk
      refine w_ fun d => ?_
      exact ⟨⟨k + 1, by omega, by rw [← e1]; exact eA rfl, hno2, ext_⟩, mA⟩
  obtain rfl : k = s.N.length := by omega
  rw [find_no hno] at hmk
  have tk := raTake_calls hX.ar W.ar
  have htk := fun k b => W.ar.taken (n := k) (b := b)
  have hlen := W.len
  clear hh hin hI b0 b1 hno
  refine w_ fun d => ?_
  refine tk.mono ?_
  rintro _ u2 ⟨b, hres, hA, hC⟩
  have hX2 := hX.setAr hA hC
  have hSw2 : Sw own w (ownUp own u u2 2) u2 := (Sw.of_ext hEwu).trans ⟨fun k hk => ownUp_old hk, Chg.foot hC (by decide)⟩
  have hbx2 : u2.heap[w2.heap.size]? = some (.cells #[.int .i64 v, .int .i64 lo, .int .i64 hi] 90) := by
    rw [hC.heap _ (by omega) (by unfold owns; omega)]; exact hbu
  have hbo2 : ownUp own u u2 2 w2.heap.size = 0 := by rw [ownUp_old (by omega)]; exact hbo
  have hbl2 := lt_of_heap hbx2
  have hp2 := hX2.at_
  have hpl2 := lt_of_heap hp2
  generalize ownUp own u u2 2 = own2 at hX2 hSw2 hbo2
  rcases hres with ⟨k, hk1, rfl⟩ | ⟨hk1, rfl, rfl⟩
  rotate_left
  · rw [hk1] at hmk
    replace hmk : s.mk' but v lo hi = ((0, 2), s) := hmk
    rw [hmk]
    clear hX hA hC tk htk hmk
    refine w_ fun d => ?_
    exact ⟨rfl, own2, ⟨_, _, _, _, _, hX2⟩, hSw2⟩
  rw [hk1] at hmk
  replace hmk : s.mk' but v lo hi = ((k + 2, 0), s.add k b (v, lo, hi)) := hmk
  rw [hmk]
  obtain ⟨hb1, _, _, _, hk0, hkl, _, hbl'⟩ := htk k b hk1
  have hkN : k ≤ (s.N.length : Int) := by omega
  have hk0' : 0 ≤ k := hk0
  have hadd : s.add k b (v, lo, hi) = ⟨b, if k = s.N.length then s.N ++ [(v, lo, hi)] else s.N.set k.toNat (v, lo, hi), s.ord⟩ := rfl
  clear hX hA hC tk htk hmk hp hpl hbu hblu hb1 hbl' hlen hkl
  by_cases hkn : k = s.N.length
  · rw [hadd, if_pos hkn]
    subst hkn
    refine w_ fun d => ?_
    have cn2 := hX2.rc.c1
    have hsz2' := hX2.rc.size
    refine s_wide (XW_ext (D := fun u => u.heap[p]? = some (.cells sc 84)) (fun u hu => hu.at hp2) ?_)
    refine dw_ ?_
    refine xf3 (v := .slice na s.N.length nc) (fun u hu => by have hu' : u.heap[p]? = some (.cells sc 84) := hu; clear hu; exact rgA) ?_
    refine dw_ ?_
    refine xf2 fun u3 hE3 => ?_
    have hp3 := hE3.at hp2
    have hpl3 := lt_of_heap hp3
    have hs3 := sz_ hE3
    refine krA ?_
    refine kv ?_
    refine ⟨fun u hu => hu.at (hA rfl), ?_⟩
    refine xf2 fun u4 hE4 => ?_
    have hE24 : Ext u2 u4 := Ext.trans (by exact ext_) hE4
    have hX4 := hX2.ext hE24
    have hb4 : u4.heap[u3.heap.size]? = some (.cells #[.int .i64 v, .int .i64 lo, .int .i64 hi] 90) := hE4.at (hA rfl)
    have hI4 : Inp u4 3 (some ⟨u3.heap.size, 0, none⟩) [rowN (v, lo, hi)] := .inr ⟨u3.heap.size, 0, _, _, _, rfl, hb4, fun i x hx j y hj => by
      match i, hx with
      | 0, hx => cases hx; simpa [rowN] using hj⟩
    obtain ⟨a5, c5, u5, hr5, hS5, hC5, hB5⟩ := SlN.app1 (c := 1) hX4.no (by show s.N.length ≤ 1000000; omega) (v, lo, hi) hI4
    dsimp only at hr5
    obtain ⟨hp5, hX6, hC6⟩ := hX4.pushN hS5 hC5 hB5
    refine krA ?_
    refine kv ?_
    refine ⟨fun u hu => hu.at hp5, ?_⟩
    refine dw_ ?_
    refine xf4 fun u6 hE6 => ?_
    have hE56 : Ext u5 u6 := hE6
    have hp6 := hE56.at hp5
    have hpl6 := lt_of_heap hp6
    have hpl5 := lt_of_heap hp5
    dsimp only at hX6 hC6
    have hsz2 := hX2.rc.size
    have hX7 : RsX (ownUp own2 u4 u5 3) (upd u6 p (.cells (sc.setIfInBounds 1 (.slice a5 (s.N.length + 1) c5)) 84)) p _ _ _ _ _ _ := hX6.keep (fun k hk => by
      have hkl := hX6.lt k hk
      rw [upd_size] at hkl
      by_cases e : p = k
      · subst e; rw [upd_same hpl6, upd_same hpl5]
      · rw [upd_other e, upd_other e, hE56.heap k hkl]) (by simp only [upd_size]; exact hE56.size)
    have hb6 : (upd u6 p (.cells (sc.setIfInBounds 1 (.slice a5 (s.N.length + 1) c5)) 84)).heap[w2.heap.size]? = some (.cells #[.int .i64 v, .int .i64 lo, .int .i64 hi] 90) := by
      have hob : own2 p = 1 := hX2.op
      have hne : p ≠ w2.heap.size := fun e => by rw [e, hbo2] at hob; cases hob
      have h4 := hE24.at hbx2
      have hl4 := lt_of_heap h4
      rw [upd_other hne, hE56.heap _ (by have := hC5.size; omega), hC5.heap _ hl4 (fun hb => by have := hX4.on _ hb; omega)]; exact h4
    have hSw7 : Sw own w (ownUp own2 u4 u5 3) (upd u6 p (.cells (sc.setIfInBounds 1 (.slice a5 (s.N.length + 1) c5)) 84)) := by
      have h1 : Sw own2 u4 (ownUp own2 u4 u5 3) u5 := ⟨fun k hk => ownUp_old hk, Chg.foot (hC5.mono fun k _ hk => hX4.on k hk) (by decide)⟩
      have h2 := ((hSw2.ext hE24).trans h1).ext hE56
      refine ⟨h2.ho, h2.ch.upd (fun hl => ?_) _⟩
      have h3 := h2.ho p hl
      have h4 := hX6.op
      unfold foot; omega
    refine krA ?_
    refine ks ?_
    refine xf_nil fun u8 hE8 => ?_
    have hX8 := hX7.ext hE8
    have hb8 := hE8.at hb6
    have hSw8 := hSw7.ext hE8
    clear hX7 hb6 hSw7 hE8 hE6 hE56 hp6 hpl6 hC6 hX6 hp5 hpl5 hr5 hS5 hC5 hB5 hI4 hb4 hX4 hE24 hE4 hE3 hs3 hp3 hpl3 hp2 hpl2 hbx2 hbl2 hX2 hSw2 hbo2
    obtain ⟨g, cur, rfl, hg, hc, _, _, _, _, hsz3, _⟩ := hX8.no.at (k := s.N.length) (v := v) (lo := lo) (hi := hi) (by simp)
    obtain ⟨hX9, hC9⟩ := hX8.setNode hg (k := s.N.length) (by simp) (v, lo, hi)
    have hset : (s.N ++ [(v, lo, hi)]).set s.N.length (v, lo, hi) = s.N ++ [(v, lo, hi)] := by
      rw [List.set_append_right _ _ (Nat.le_refl _), Nat.sub_self]; rfl
    dsimp only at hX9 hc
    rw [hset] at hX9
    have hSw9 := hSw8.trans ⟨fun _ _ => rfl, Chg.foot hC9 (by decide)⟩
    have hp8 := hX8.at_
    have cn8 := hX8.rc.c1
    have hsz8 := hX8.rc.size
    have hpl8 := lt_of_heap hp8
    have hgl8 := lt_of_heap hg
    have hbl8 := lt_of_heap hb8
    have hlN : (s.N ++ [(v, lo, hi)]).length = s.N.length + 1 := by simp
    dsimp only at cn8
    rw [hlN] at cn8 hc
    have hk3 : (s.N.length : Int) < ((s.N.length + 1 : Nat) : Int) := by omega
    have hk4 : (s.N.length : Int) < (s.N.length : Int) + 1 := by omega
    clear hX8 hC9 hset hadd
    refine w_ fun d => ?_
    exact ⟨rfl, _, ⟨_, _, _, _, _, hX9.ext ext_⟩, hSw9.ext ext_⟩
  · rw [hadd, if_neg hkn]
    have hkb : (k == (s.N.length : Int)) = false := by simpa using hkn
    have hkt : k.toNat < s.N.length := by omega
    obtain ⟨z, hz⟩ : ∃ z, s.N[k.toNat]? = some z := ⟨s.N[k.toNat], List.getElem?_eq_getElem hkt⟩
    obtain ⟨g, cur, rfl, hg, hc, _, _, _, _, hsz3, _⟩ := hX2.no.at (v := z.1) (lo := z.2.1) (hi := z.2.2) hz
    have hgl := lt_of_heap hg
    obtain ⟨hX3, hC3⟩ := hX2.setNode hg hkt (v, lo, hi)
    have hSw3 := hSw2.trans ⟨fun _ _ => rfl, Chg.foot hC3 (by decide)⟩
    have hkl3 : k < s.N.length := by omega
    dsimp only at hc
    clear hX2 hC3 hSw2 hz hadd hkn
    refine w_ fun d => ?_
    exact ⟨rfl, own2, ⟨_, _, _, _, _, hX3.ext ext_⟩, hSw3.ext ext_⟩
end
end Go.Proofs.YtpeindhocndmnaaGreat

namespace Go.Proofs.YtpeindhocndmnaaGreat
open Go Go.Bx
set_option linter.unusedSimpArgs false
set_option linter.unusedVariables false
set_option maxRecDepth 100000
set_option maxHeartbeats 4000000
attribute [local irreducible] X XO XE XF XD XW thenX inX retX kN CallsR
section
variable {own own1 own2 : Nat → Nat} {w w' w1 w2 : World} {p : Nat} {s : Md} {n v x y lo hi : Int} {but : List Int}
theorem rsMkP_calls (h : RsI own w p s) (W : s.WF) (hlo : lo ≤ 9223372036854775807) (hhi : hi ≤ 9223372036854775807) :
    CallsR Tryz.prog 57 #[.pointer (some ⟨p, 0, none⟩), .int .i64 v, .int .i64 lo, .int .i64 hi] w fun r w' => r = .tuple #[.int .i64 (s.mk' [] v lo hi).1.1, .int .i64 (s.mk' [] v lo hi).1.2] ∧ TrS own w p (s.mk' [] v lo hi).2 w' := by
  have c1 := fun u (hu : Ext w u) => rsMk_calls (v := v) (but := []) (aB := none) (cB := 0) (h.ext hu) W (.inl rfl) (by simp) hlo hhi
  rw [List.length_nil] at c1
  refine en4 Tryz.func57 Tryz.results57 mixed [] ?_
  intro e0 h0 h1 h2 h3
  refine w_ fun d => ?_
  refine (c1 _ ext_).mono ?_
  rintro _ w1 ⟨rfl, own1, h1', hSw⟩
  refine w_ fun d => ?_
  exact ⟨rfl, own1, h1', ⟨hSw.ho, hSw.ch⟩⟩
def pB (s : Md) (n : Int) (k : Nat) : Bool := (decide ((s.nd ((k : Int) + 2)).2.1 = n) || decide ((s.nd ((k : Int) + 2)).2.2 = n)) && s.has ((k : Int) + 2)
theorem pointed_yes {k : Nat} (hk : k < s.N.length) (h : pB s n k = true) (W : s.WF) : s.pointed n = true := by
  unfold pB at h
  rw [Bool.and_eq_true] at h
  unfold Md.pointed
  exact List.any_eq_true.2 ⟨(k : Int) + 2, W.mem_all.2 h.2, h.1⟩
theorem pointed_not (W : s.WF) (h : ∀ k, k < s.N.length → pB s n k = false) : s.pointed n = false := by
  unfold Md.pointed
  rw [List.any_eq_false]
  intro m hm
  have hh := W.mem_all.1 hm
  have hl := W.lt hh
  have := h (m - 2).toNat (by omega)
  unfold pB at this
  rw [show (((m - 2).toNat : Nat) : Int) + 2 = m by omega, hh, Bool.and_true] at this
  rw [this]; simp
theorem rsFree_calls (h : RsI own w p s) (W : s.WF) (hn : n ≤ 9223372036854775807) :
    CallsR Tryz.prog 56 #[.pointer (some ⟨p, 0, none⟩), .int .i64 n] w fun r w' => r = .int .i64 (s.free n).1 ∧ TrS own w p (s.free n).2 w' := by
  have c1 := rsHas_calls h W n hn
  have hN := wf_N W
  unfold Md.free
  cases hh : s.has n
  · rw [hh] at c1
    rw [if_pos (.inl rfl)]
    clear W hh
    refine en2 Tryz.func56 Tryz.results56 mixed [] ?_
    intro e0 h0 h1
    refine w_ fun d => ?_
    refine qq c1 fun w1 hE1 hs1 => ?_
    refine w_ fun d => ?_
    exact ⟨rfl, TrS.of_ext h ext_⟩
  rw [hh] at c1
  have hl := W.lt hh
  have hq := fun u (hu : Ext w u) (k : Nat) (hk : k < 30000) => rsHas_calls (h.ext hu) W ((k : Int) + 2) (by omega)
  refine en2 Tryz.func56 Tryz.results56 mixed [] ?_
  intro e0 h0 h1
  refine w_ fun d => ?_
  refine qq c1 fun w1 hE1 hs1 => ?_
  refine w_ fun d => ?_
  refine lo_ (fun _ e w' => ∃ k : Nat, k ≤ s.N.length ∧ e 5 = .int .i64 ((k : Int) + 2) ∧ Box (∀ j, j < k → pB s n j = false) ∧ Ext w w') (fun e _ => s.N.length + 2 - nat (e 5)) ?_ ?_
  · exact ⟨0, by omega, eA rfl, ⟨fun j hj => by omega⟩, ext_⟩
  rintro e u hf ⟨k, hk, h5, ⟨hno⟩, hE⟩
  obtain ⟨pa, na, nc, sc, oc, hX⟩ := h.ext hE
  have hp := hX.at_
  have cn := hX.rc.c1
  have ca := hX.rc.c0
  have hsz := hX.rc.size
  have hpl := lt_of_heap hp
  by_cases hlt : k < s.N.length
  · obtain ⟨z, hz⟩ : ∃ z, s.N[k]? = some z := ⟨s.N[k], List.getElem?_eq_getElem hlt⟩
    have hnd : s.nd ((k : Int) + 2) = z := by unfold Md.nd; rw [show ((k : Int) + 2 - 2).toNat = k by omega, List.getD, hz]; rfl
    obtain ⟨a, b, c⟩ := z
    have q1 := hq _ hE k (by omega)
    have hpb : pB s n k = ((b == n || c == n) && s.has ((k : Int) + 2)) := by unfold pB; rw [hnd]; rfl
    have hno1 : pB s n k = false → Box (∀ j, j < k + 1 → pB s n j = false) := fun hb => ⟨fun j hj => by
      by_cases e2 : j = k
      · subst e2; exact hb
      · exact hno j (by omega)⟩
    obtain ⟨g, cur, rfl, hg, hc, _, x0, x1, x2, hsz3, hex⟩ := hX.no.at hz
    have hgl := lt_of_heap hg
    have e1 : (k : Int) + 2 + 1 = ((k + 1 : Nat) : Int) + 2 := by omega
    have e2 : (k : Int) + 2 - 2 = k := by omega
    have hn0 := fun hyes => pointed_yes (s := s) (n := n) hlt hyes W
    cases eb : (b == n)
    · cases ec : (c == n)
      · have hno2 := hno1 (by rw [hpb, eb, ec]; rfl)
        clear hno hno1 hpb hX hq W hz hnd hn0 hl
        refine w_ fun d => ?_
        exact ⟨⟨k + 1, by omega, by rw [← e1]; exact eA rfl, hno2, ext_⟩, mA⟩
      · cases hhk : s.has ((k : Int) + 2)
        · rw [hhk] at q1
          have hno2 := hno1 (by rw [hpb, hhk]; simp)
          clear hno hno1 hpb hX hq W hz hnd hn0 hl hhk
          refine w_ fun d => ?_
          refine qq q1 fun u2 hE2 hs2 => ?_
          refine w_ fun d => ?_
          exact ⟨⟨k + 1, by omega, by rw [← e1]; exact eA rfl, hno2, ext_⟩, mA⟩
        · rw [hhk] at q1
          have hpt := hn0 (by rw [hpb, eb, ec, hhk]; rfl)
          rw [if_pos (.inr hpt)]
          clear hno hno1 hpb hX hq W hz hnd hn0 hl hhk hpt
          refine w_ fun d => ?_
          refine qq q1 fun u2 hE2 hs2 => ?_
          refine w_ fun d => ?_
          exact ⟨rfl, TrS.of_ext h ext_⟩
    · cases hhk : s.has ((k : Int) + 2)
      · rw [hhk] at q1
        have hno2 := hno1 (by rw [hpb, hhk]; simp)
        clear hno hno1 hpb hX hq W hz hnd hn0 hl hhk
        refine w_ fun d => ?_
        refine qq q1 fun u2 hE2 hs2 => ?_
        refine w_ fun d => ?_
        exact ⟨⟨k + 1, by omega, by rw [← e1]; exact eA rfl, hno2, ext_⟩, mA⟩
      · rw [hhk] at q1
        have hpt := hn0 (by rw [hpb, eb, hhk]; rfl)
        rw [if_pos (.inr hpt)]
        clear hno hno1 hpb hX hq W hz hnd hn0 hl hhk hpt
        refine w_ fun d => ?_
        refine qq q1 fun u2 hE2 hs2 => ?_
        refine w_ fun d => ?_
        exact ⟨rfl, TrS.of_ext h ext_⟩
  obtain rfl : k = s.N.length := by omega
  have hpt := pointed_not W hno
  rw [if_neg (by rw [hpt]; simp)]
  have gv := raGive_calls hX.ar W.ar (n - 2)
  rw [Md.has_ar hh] at gv
  simp only [↓reduceIte] at gv
  have hl0 : 0 ≤ n - 2 := by omega
  have hn6 : n ≤ 1000000 := by omega
  clear hno hq hpt hh
  refine w_ fun d => ?_
  refine gv.mono ?_
  rintro _ u2 ⟨⟨rfl, hA⟩, hC⟩
  have hX2 := hX.setAr hA hC
  have hSw2 : Sw own w (ownUp own u u2 2) u2 := (Sw.of_ext hE).trans ⟨fun k hk => ownUp_old hk, Chg.foot hC (by decide)⟩
  clear gv hX hA hC
  refine w_ fun d => ?_
  exact ⟨rfl, _, ⟨_, _, _, _, _, hX2⟩, hSw2⟩
theorem inp_drop {w : World} {a : Option Addr} {l : List Int} {i cap : Nat} (h : InI w a l) (hc : l.length ≤ cap) : InI w (cutAddr a 1 i cap) (l.drop i) := by
  by_cases hi : l.length ≤ i
  · rw [List.drop_of_length_le hi]; exact .inl rfl
  · rcases h with h | ⟨b, o, c, E, fz, rfl, h2, h3⟩
    · rw [List.map_eq_nil_iff.1 (List.map_eq_nil_iff.1 h)]; exact .inl (by simp)
    · refine .inr ⟨b, o + i, c, E, fz, ?_, h2, fun j x hx k u hk => ?_⟩
      · unfold cutAddr
        rw [if_neg (by omega), Option.map_some, add_none, Nat.mul_one]
      · have hx' : (one1 (ints l))[i + j]? = some x := by
          rw [List.getElem?_map, List.getElem?_map] at hx ⊢
          rw [List.getElem?_drop] at hx; exact hx
        have := h3 (i + j) x hx' k u hk
        rw [← this]; congr 1; omega
end
end Go.Proofs.YtpeindhocndmnaaGreat

namespace Go.Proofs.YtpeindhocndmnaaGreat
open Go Go.Bx
set_option linter.unusedSimpArgs false
set_option linter.unusedVariables false
set_option maxRecDepth 100000
set_option maxHeartbeats 4000000
attribute [local irreducible] X XO XE XF XD XW thenX inX retX kN CallsR
section
variable {own own1 own2 : Nat → Nat} {w w' w1 w2 : World} {p : Nat} {s s0 s1 : Md} {n v x y lo hi : Int} {but : List Int}
theorem rsSwap_calls (h : RsI own w p s) (G : s.Good []) (l : Int) :
    CallsR Tryz.prog 38 #[.pointer (some ⟨p, 0, none⟩), .int .i64 l] w fun r w' => r = .int .i64 (s.swap l).1 ∧ TrS own w p (s.swap l).2 w' := by
  have W := G.wf
  by_cases hl : 0 ≤ l ∧ l < 7
  rotate_left
  · have e : s.swap l = (1, s) := by unfold Md.swap; rw [if_pos (by omega)]
    rw [e]
    clear G W e
    by_cases h0' : 0 ≤ l
    · have h1' : ¬ l ≤ 6 := fun h => hl ⟨h0', by omega⟩
      clear hl
      refine en2 Tryz.func38 Tryz.results38 mixed [(1020, [3, 7, 10]), (21, [15]), (22, [15])] ?_
      intro e0 h0 h1
      refine w_ fun d => ?_
      exact ⟨rfl, TrS.of_ext h ext_⟩
    · clear hl
      refine en2 Tryz.func38 Tryz.results38 mixed [(1020, [3, 7, 10]), (21, [15]), (22, [15])] ?_
      intro e0 h0 h1
      refine w_ fun d => ?_
      exact ⟨rfl, TrS.of_ext h ext_⟩
  obtain ⟨k, rfl⟩ := Int.eq_ofNat_of_zero_le hl.1
  have hk : k < 7 := by omega
  have hol := W.ord.len
  obtain ⟨x, hx⟩ : ∃ x, s.ord[k]? = some x := ⟨s.ord[k], List.getElem?_eq_getElem (by omega)⟩
  obtain ⟨y, hy⟩ : ∃ y, s.ord[k + 1]? = some y := ⟨s.ord[k + 1], List.getElem?_eq_getElem (by omega)⟩
  have gx : s.ord.getD k 0 = x := by rw [List.getD, hx]; rfl
  have gy : s.ord.getD (k + 1) 0 = y := by rw [List.getD, hy]; rfl
  have L : LvXY s k x y := ⟨hk, hx, hy⟩
  have hN := wf_N W
  have hal : s.all.length ≤ s.N.length := allTo_len (s := s) (k := s.N.length)
  have hchl : (s.change x y).length ≤ 20000 := by
    have h1 := List.length_filter_le (fun n => decide ((s.nd n).1 = x) && (s.of (s.nd n).2.1 y || s.of (s.nd n).2.2 y)) s.all
    unfold Md.change; omega
  have hm0 := W.ar.many_le
  have hmo := W.ar.most
  have hroom : s.room = s.a.most - s.a.many := rfl
  have al := fun u (hu : Ext w u) => rsAll_calls (h.ext hu) W
  have rm := fun u (hu : Ext w u) => rsRoom_calls (h.ext hu) W
  have hR := h
  obtain ⟨pa, na, nc, sc, oc, hX⟩ := id hR
  have hp := hX.at_
  have hsz := hX.rc.size
  have ox := hX.rc.at_ord hX.oc hx
  have oy := hX.rc.at_ord hX.oc hy
  have hpl := lt_of_heap hp
  have hk1 : ((k : Int) + 1).toNat = k + 1 := by omega
  have hk6 : (k : Int) ≤ 6 := by omega
  have e : s.swap k = if s.room < 2 * ((s.change x y).length : Int) then (2, s) else (0, Md.swapGo x y (s.ordS k) (s.change x y)) := by
    unfold Md.swap
    rw [if_neg (by omega), show ((k : Nat) : Int).toNat = k by omega, gx, gy]
  rw [e]
  clear e gx gy hx hy hX
  refine en2 Tryz.func38 Tryz.results38 mixed [(1020, [3, 7, 10]), (21, [15]), (22, [15])] ?_
  intro e0 h0 h1
  refine w_ fun d => ?_
  refine (al _ ext_).mono ?_
  rintro _ w2 ⟨aA, cA, rfl, hSA, hnA, hEA⟩
  have hE : Ext w w2 := Ext.trans (by exact ext_) hEA
  have hszw := hE.size
  have hI := h.ext hE
  clear hEA hnA al hp ox oy
  refine w_ fun d => ?_
  refine lo_ (fun _ e w' => ∃ (i : Nat) (a' : Option Addr) (cap' : Nat) (m : List Int), i ≤ s.all.length ∧ e 9 = .int .i64 i ∧ e 7 = .slice a' m.length cap' ∧ SlC w' 3 a' cap' (ints m) ∧ (∀ g, blk a' = some g → w2.heap.size ≤ g) ∧ Box (m = (s.all.take i).filter (chgB s x y)) ∧ Ext w2 w') (fun e _ => s.all.length - nat (e 9)) ?_ ?_
  · exact ⟨0, none, 0, [], by omega, eA rfl, eA rfl, SlC.nil _ _, (fun g h => by cases h), ⟨rfl⟩, ext_⟩
  rintro e w1 hf ⟨i, a', cap', m, hi, h9, h7, hS, hn, ⟨hm⟩, hE2⟩
  have hs1 := sz_ hE2
  have hml : m.length ≤ i := by rw [hm]; exact Nat.le_trans (List.length_filter_le _ _) (by rw [List.length_take]; omega)
  by_cases hlt : i < s.all.length
  · obtain ⟨n, hn0⟩ : ∃ n, s.all[i]? = some n := ⟨s.all[i], List.getElem?_eq_getElem hlt⟩
    have hsc := take_filter (f := chgB s x y) hn0
    have hhas := W.mem_all.1 (List.mem_of_getElem? hn0)
    have hx := W.get hhas
    have hl := W.lt hhas
    have ok := G.node n hhas (by simp)
    obtain ⟨z, hz⟩ : ∃ z, s.nd n = z := ⟨_, rfl⟩
    have hcb : chgB s x y n = (decide (z.1 = x) && (s.of z.2.1 y || s.of z.2.2 y)) := by unfold chgB; rw [hz]
    have okl := (Md.below_lt W ok.lo).1
    have okh := (Md.below_lt W ok.hi).1
    rw [hz] at hx okl okh
    obtain ⟨v, lo, hi'⟩ := z
    dsimp only at hcb okl okh
    have il := rsOf_calls (hI.ext hE2) W lo y (by omega)
    have ih := rsOf_calls (hI.ext hE2) W hi' y (by omega)
    obtain ⟨gA, curA, rfl, hgA, hcA, _, hatA⟩ := (hSA.ext hE2).at (i := i) (v := .int .i64 n) (by rw [List.getElem?_map, hn0]; rfl)
    rw [List.length_map] at hcA
    obtain ⟨pa, na, nc, sc, oc, hX⟩ := hI.ext hE2
    obtain ⟨g, cur, rfl, hg, hc, hlt2, x0, x1, x2, hsz3, hex⟩ := hX.no.at hx
    have hp := hX.at_
    have c2 := hX.rc.c1
    have hscs := hX.rc.size
    have hpl := lt_of_heap hp
    have hgl := lt_of_heap hg
    have hglA := lt_of_heap hgA
    have hl1 := hl.2
    have hl0 : 0 ≤ n - 2 := by omega
    have hN' : n ≤ 1000000 := by omega
    have hltA : (i : Int) < s.all.length := by omega
    have grow : ∀ u, Ext w1 u → ∃ a3 c3 w3, apR Tryz.prog 23 (.slice a' m.length cap') (.slice (some ⟨u.heap.size, 0, none⟩) 1 1) (u.alloc (.cells #[.int .i64 n] 3)) = .ok (.slice a3 (m.length + 1) c3) w3 ∧ SlC w3 3 a3 c3 (ints (m ++ [n])) ∧ (∀ g, blk a3 = some g → w2.heap.size ≤ g) ∧ Ext w2 w3 := fun u hu => by
      obtain ⟨a3, c3, w3, hr, hS3, hC3, hs3, hB3⟩ := pushI (hS.ext hu) (by omega) n
      refine ⟨a3, c3, w3, hr, hS3, fun g hg => ?_, hC3.toExt (hE2.trans hu) fun g hg hb => by have := hn g hb; omega⟩
      have := (hE2.trans hu).size
      rcases hB3 g hg with h | ⟨h, _⟩
      · exact hn g h
      · omega
    have e' : decide (v = x) = (v == x) := rfl
    rw [e'] at hcb
    clear hX hx hl ok okl okh hz hn0 W G h hhas hSA hE e' hI hR
    cases hl' : s.of lo y
    · rw [hl'] at il hcb
      cases hh' : s.of hi' y
      · rw [hh'] at ih hcb
        cases hv : (v == x)
        · rw [hv] at hcb
          have hi2 : Box (m = (s.all.take (i + 1)).filter (chgB s x y)) := ⟨by rw [hsc, hcb, hm]; rfl⟩
          clear hm hsc hcb hl' hh' grow
          refine w_ fun d => ?_
          intro w4 hE4 hs4
          have ih4 := ih.at hE4
          refine w_ fun d => ?_
          intro w5 hE5 hs5
          have hE15 := hE4.trans hE5
          have hp5 := hE15.at hp
          have hg5 := hE15.at hg
          have hgA5 := hE15.at hgA
          have hS5 := hS.ext hE15
          have hE25 := hE2.trans hE15
          refine w_ fun d => ?_
          exact ⟨⟨i + 1, a', cap', m, by omega, eA rfl, eA rfl, hS5.ext ext_, hn, hi2, ext_⟩, mA⟩
        · rw [hv] at hcb
          have hi2 : Box (m = (s.all.take (i + 1)).filter (chgB s x y)) := ⟨by rw [hsc, hcb, hm]; rfl⟩
          clear hm hsc hcb hl' hh' grow
          refine w_ fun d => ?_
          intro w4 hE4 hs4
          have ih4 := ih.at hE4
          refine w_ fun d => ?_
          intro w5 hE5 hs5
          have hE15 := hE4.trans hE5
          have hp5 := hE15.at hp
          have hg5 := hE15.at hg
          have hgA5 := hE15.at hgA
          have hS5 := hS.ext hE15
          have hE25 := hE2.trans hE15
          refine w_ fun d => ?_
          exact ⟨⟨i + 1, a', cap', m, by omega, eA rfl, eA rfl, hS5.ext ext_, hn, hi2, ext_⟩, mA⟩
      · rw [hh'] at ih hcb
        cases hv : (v == x)
        · rw [hv] at hcb
          have hi2 : Box (m = (s.all.take (i + 1)).filter (chgB s x y)) := ⟨by rw [hsc, hcb, hm]; rfl⟩
          clear hm hsc hcb hl' hh' grow
          refine w_ fun d => ?_
          intro w4 hE4 hs4
          have ih4 := ih.at hE4
          refine w_ fun d => ?_
          intro w5 hE5 hs5
          have hE15 := hE4.trans hE5
          have hp5 := hE15.at hp
          have hg5 := hE15.at hg
          have hgA5 := hE15.at hgA
          have hS5 := hS.ext hE15
          have hE25 := hE2.trans hE15
          refine w_ fun d => ?_
          exact ⟨⟨i + 1, a', cap', m, by omega, eA rfl, eA rfl, hS5.ext ext_, hn, hi2, ext_⟩, mA⟩
        · rw [hv] at hcb
          have hi2 : Box (m ++ [n] = (s.all.take (i + 1)).filter (chgB s x y)) := ⟨by rw [hsc, hcb, hm]; rfl⟩
          clear hm hsc hcb hl' hh'
          refine w_ fun d => ?_
          intro w4 hE4 hs4
          have ih4 := ih.at hE4
          refine w_ fun d => ?_
          intro w5 hE5 hs5
          have hE15 := hE4.trans hE5
          have hp5 := hE15.at hp
          have hg5 := hE15.at hg
          have hgA5 := hE15.at hgA
          refine w_ fun d => ?_
          obtain ⟨a3, c3, w3, hr, hS3, hn3, hE3⟩ := grow (dr w5 d) (hE15.dr d)
          clear grow
          simp only [alloc_dr, dr_heap] at hr
          refine w_ fun d => ?_
          exact ⟨⟨i + 1, a3, c3, m ++ [n], by omega, eA rfl, by rw [List.length_append]; exact eA rfl, hS3, hn3, hi2, hE3⟩, mA⟩
    · rw [hl'] at il hcb
      cases hh' : s.of hi' y
      · rw [hh'] at ih hcb
        cases hv : (v == x)
        · rw [hv] at hcb
          have hi2 : Box (m = (s.all.take (i + 1)).filter (chgB s x y)) := ⟨by rw [hsc, hcb, hm]; rfl⟩
          clear hm hsc hcb hl' hh' grow
          refine w_ fun d => ?_
          intro w4 hE4 hs4
          have ih4 := ih.at hE4
          refine w_ fun d => ?_
          intro w5 hE5 hs5
          have hE15 := hE4.trans hE5
          have hp5 := hE15.at hp
          have hg5 := hE15.at hg
          have hgA5 := hE15.at hgA
          have hS5 := hS.ext hE15
          have hE25 := hE2.trans hE15
          refine w_ fun d => ?_
          exact ⟨⟨i + 1, a', cap', m, by omega, eA rfl, eA rfl, hS5.ext ext_, hn, hi2, ext_⟩, mA⟩
        · rw [hv] at hcb
          have hi2 : Box (m ++ [n] = (s.all.take (i + 1)).filter (chgB s x y)) := ⟨by rw [hsc, hcb, hm]; rfl⟩
          clear hm hsc hcb hl' hh'
          refine w_ fun d => ?_
          intro w4 hE4 hs4
          have ih4 := ih.at hE4
          refine w_ fun d => ?_
          intro w5 hE5 hs5
          have hE15 := hE4.trans hE5
          have hp5 := hE15.at hp
          have hg5 := hE15.at hg
          have hgA5 := hE15.at hgA
          refine w_ fun d => ?_
          obtain ⟨a3, c3, w3, hr, hS3, hn3, hE3⟩ := grow (dr w5 d) (hE15.dr d)
          clear grow
          simp only [alloc_dr, dr_heap] at hr
          refine w_ fun d => ?_
          exact ⟨⟨i + 1, a3, c3, m ++ [n], by omega, eA rfl, by rw [List.length_append]; exact eA rfl, hS3, hn3, hi2, hE3⟩, mA⟩
      · rw [hh'] at ih hcb
        cases hv : (v == x)
        · rw [hv] at hcb
          have hi2 : Box (m = (s.all.take (i + 1)).filter (chgB s x y)) := ⟨by rw [hsc, hcb, hm]; rfl⟩
          clear hm hsc hcb hl' hh' grow
          refine w_ fun d => ?_
          intro w4 hE4 hs4
          have ih4 := ih.at hE4
          refine w_ fun d => ?_
          intro w5 hE5 hs5
          have hE15 := hE4.trans hE5
          have hp5 := hE15.at hp
          have hg5 := hE15.at hg
          have hgA5 := hE15.at hgA
          have hS5 := hS.ext hE15
          have hE25 := hE2.trans hE15
          refine w_ fun d => ?_
          exact ⟨⟨i + 1, a', cap', m, by omega, eA rfl, eA rfl, hS5.ext ext_, hn, hi2, ext_⟩, mA⟩
        · rw [hv] at hcb
          have hi2 : Box (m ++ [n] = (s.all.take (i + 1)).filter (chgB s x y)) := ⟨by rw [hsc, hcb, hm]; rfl⟩
          clear hm hsc hcb hl' hh'
          refine w_ fun d => ?_
          intro w4 hE4 hs4
          have ih4 := ih.at hE4
          refine w_ fun d => ?_
          intro w5 hE5 hs5
          have hE15 := hE4.trans hE5
          have hp5 := hE15.at hp
          have hg5 := hE15.at hg
          have hgA5 := hE15.at hgA
          refine w_ fun d => ?_
          obtain ⟨a3, c3, w3, hr, hS3, hn3, hE3⟩ := grow (dr w5 d) (hE15.dr d)
          clear grow
          simp only [alloc_dr, dr_heap] at hr
          refine w_ fun d => ?_
          exact ⟨⟨i + 1, a3, c3, m ++ [n], by omega, eA rfl, by rw [List.length_append]; exact eA rfl, hS3, hn3, hi2, hE3⟩, mA⟩
  · obtain rfl : i = s.all.length := by omega
    rw [List.take_length] at hm
    have hEw1 := hE.trans hE2
    have rm1 := rm _ hEw1
    have hI1 := hI.ext hE2
    have hCH : m = s.change x y := hm
    have hC0 : ∀ g, blk a' = some g → own g = 0 := fun g hg => by
      have := hn g hg
      cases ho : own g with
      | zero => rfl
      | succ q => have := h.lt g (by omega); omega
    clear hm rm hSA hI hn hE
    rw [← hCH] at hchl ⊢
    by_cases hfull : s.room < 2 * (m.length : Int)
    · rw [if_pos hfull]
      clear W G L hCH hR hml
      refine w_ fun d => ?_
      refine qq rm1 fun w3 hE3 hs3 => ?_
      refine w_ fun d => ?_
      exact ⟨rfl, TrS.of_ext h ext_⟩
    rw [if_neg hfull]
    have I0 := SwI.start G L (by rw [← hCH]; omega)
    rw [← hCH] at I0
    have hmem : ∀ n ∈ m, s.has n = true := fun n hn => by rw [hCH] at hn; exact (W.mem_change.1 hn).1
    obtain ⟨oc2, hoc2⟩ := ordC (ord := swp s.ord k) (by rw [swp_length]; exact hol)
    have hsw := refSwap_calls s.ord hol k
    rw [hoc2.agg] at hsw
    have hoz := hoc2.size
    have ho8 := hoc2.len8
    have hoce := hoc2.cell
    obtain ⟨pa, na, nc, sc, oc, hX⟩ := hI1
    have hp := hX.at_
    have hsz := hX.rc.size
    have co := hX.rc.co
    have hag := hX.oc.agg
    rw [hag] at hsw
    have hX2 := fun u' (hE : Ext w1 u') => (hX.ext hE).setOrd hoc2
    have stn := fun u' : World => stN_ord2 (p := p) (E := 84) (w := u') hsz hoz
    have hpl := lt_of_heap hp
    have hfl : ¬ s.room < 2 * (m.length : Int) := hfull
    have hfd : decide (s.room < 2 * (m.length : Int)) = false := decide_eq_false hfull
    clear hag hml hroom hfull hCH
    refine w_ fun d => ?_
    refine qq rm1 fun w3 hE3 hs3 => ?_
    refine w_ fun d => ?_
    refine qq hsw.quiet fun w4 hE4 hs4 => ?_
    have hE14 : Ext w1 w4 := hE3.trans hE4
    have hp4 := hE14.at hp
    refine w_ fun d => ?_
    refine at_w fun u4 hu4 => ?_
    have hX4 := hX2 w4 hE14
    rw [← hu4] at hX4
    have hI4 : RsI own u4 p (s.ordS k) := ⟨_, _, _, _, _, hX4⟩
    have hop : own p = 1 := h.op
    have hSww : Sw own w own u4 := by
      have h1 : Sw own w own w4 := Sw.of_ext (hEw1.trans hE14)
      refine ⟨h1.ho, ?_⟩
      rw [hu4]
      exact h1.ch.upd (fun _ => by unfold foot; omega) _
    have hSC4 : SlC u4 3 a' cap' (ints m) := by
      rw [hu4]
      exact (hS.ext hE14).upd fun g hg e => by have := hC0 g hg; rw [e, hop] at this; cases this
    obtain ⟨fin, hfin⟩ : ∃ z, Md.swapGo x y (s.ordS k) m = z := ⟨_, rfl⟩
    rw [hfin]
    have hcap := hSC4.le
    rw [List.length_map] at hcap
    obtain ⟨rx, ry, nxy⟩ := L.rng G
    clear hu4 hX4 hX2 hX hp4 hp hE14 hE4 hE3 hs4 hs3 hS stn hsz co hpl hsw hfl hfd rm1 hE2 hEw1 hR hs1
    clear w4 w3
    refine lo_ (fun _ e u => ∃ (i : Nat) (own2 : Nat → Nat) (si : Md), i ≤ m.length ∧ e 12 = .int .i64 i ∧ RsI own2 u p si ∧ Sw own u4 own2 u ∧ Box (SwI s k x y si (m.drop i) ∧ Md.swapGo x y si (m.drop i) = fin)) (fun e _ => m.length - nat (e 12)) ?_ ?_
    · exact ⟨0, own, s.ordS k, by omega, eA rfl, hI4, Sw.of_ext ext_, ⟨by rw [List.drop_zero]; exact ⟨I0, hfin⟩⟩⟩
    rintro e u hf ⟨i, own2, si, hi, h12, hIu, hSw, ⟨I, hgo⟩⟩
    by_cases hlt : i < m.length
    · obtain ⟨n, hn⟩ : ∃ n, m[i]? = some n := ⟨m[i], List.getElem?_eq_getElem hlt⟩
      have hdr : m.drop i = n :: m.drop (i + 1) := by
        rw [List.drop_eq_getElem_cons hlt]
        rw [List.getElem?_eq_getElem hlt] at hn
        rw [Option.some.inj hn]
      have hdl : (m.drop i).length = m.length - i := List.length_drop
      have hbox0 := I
      rw [hdr] at I hgo
      have S := I.step G L
      obtain ⟨hn0, hvx, _, hnd'⟩ := I.rem n (by simp)
      have ok := G.node n hn0 (by simp)
      obtain ⟨z, hz⟩ : ∃ z, s.nd n = z := ⟨_, rfl⟩
      have bl := (Md.below_lt W ok.lo).1
      have bh := (Md.below_lt W ok.hi).1
      rw [hz] at hvx bl bh hnd'
      have okl := ok.lo
      have okh := ok.hi
      rw [hz] at okl okh
      obtain ⟨v, Lo, Hi⟩ := z
      dsimp only at hvx bl bh okl okh
      subst hvx
      have sL := fun b => I.side G L okl b
      have sH := fun b => I.side G L okh b
      have Wi := I.good.wf
      have a1 := (Md.below_lt Wi (sL false).1).1
      have a2 := (Md.below_lt Wi (sH false).1).1
      have a3 := (Md.below_lt Wi (sL true).1).1
      have a4 := (Md.below_lt Wi (sH true).1).1
      have e3 := (Md.side_le (y := y) S.l1 (sL true).2.2.1 true).1
      have e4 := (Md.side_le (y := y) S.l1 (sH true).2.2.1 true).1
      have hni := I.good.sub n (by simp)
      have hxi := Wi.get hni
      have hli := Wi.lt hni
      rw [hnd'] at hxi
      have q1 : si.mk' (m.drop i) v (si.side Lo y false) (si.side Hi y false) = si.step1 (n :: m.drop (i + 1)) v y n := by rw [hdr]; unfold Md.step1; rw [hnd']
      have q2 : (si.step1 (n :: m.drop (i + 1)) v y n).2.mk' (m.drop i) v ((si.step1 (n :: m.drop (i + 1)) v y n).2.side Lo y true) ((si.step1 (n :: m.drop (i + 1)) v y n).2.side Hi y true) = si.step2 (n :: m.drop (i + 1)) v y n := by
        rw [hdr]; unfold Md.step2; rw [hnd']
      have sd1 := fun u' (hE : Ext u u') => rsSide_calls (hIu.ext hE) Wi Lo y 0 (by omega)
      have sd2 := fun u' (hE : Ext u u') => rsSide_calls (hIu.ext hE) Wi Hi y 0 (by omega)
      have sd3 := fun u' o (hh : RsI o u' p (si.step1 (n :: m.drop (i + 1)) v y n).2) => rsSide_calls hh S.g1.wf Lo y 1 (by omega)
      have sd4 := fun u' o (hh : RsI o u' p (si.step1 (n :: m.drop (i + 1)) v y n).2) => rsSide_calls hh S.g1.wf Hi y 1 (by omega)
      rw [show ((0 : Int) != 0) = false from rfl] at sd1 sd2
      rw [show ((1 : Int) != 0) = true from rfl] at sd3 sd4
      have hInS : ∀ u', SlC u' 3 a' cap' (ints m) → InI u' (cutAddr a' 1 i cap') (m.drop i) := fun u' hh => inp_drop hh.inp hcap
      have mk1 := fun u' (hE : Ext u u') (hh : SlC u' 3 a' cap' (ints m)) => rsMk_calls (v := v) (cB := cap' - i) (hIu.ext hE) Wi (hInS u' hh) (by omega) (lo := si.side Lo y false) (hi := si.side Hi y false) (by omega) (by omega)
      have mk2 := fun u' o (h1 : RsI o u' p (si.step1 (n :: m.drop (i + 1)) v y n).2) (hh : SlC u' 3 a' cap' (ints m)) => rsMk_calls (v := v) (cB := cap' - i) h1 S.g1.wf (hInS u' hh) (by omega) (lo := (si.step1 (n :: m.drop (i + 1)) v y n).2.side Lo y true) (hi := (si.step1 (n :: m.drop (i + 1)) v y n).2.side Hi y true) (by omega) (by omega)
      rw [q1, hdl] at mk1
      rw [q2, hdl] at mk2
      have hgo' : Md.swapGo v y (si.swapStep (n :: m.drop (i + 1)) v y n) (m.drop (i + 1)) = fin := hgo
      have hbox : Box (SwI s k v y (si.swapStep (n :: m.drop (i + 1)) v y n) (m.drop (i + 1)) ∧ Md.swapGo v y (si.swapStep (n :: m.drop (i + 1)) v y n) (m.drop (i + 1)) = fin) := ⟨S.next, hgo'⟩
      have hst : si.swapStep (n :: m.drop (i + 1)) v y n = (si.step2 (n :: m.drop (i + 1)) v y n).2.lay n (y, (si.step1 (n :: m.drop (i + 1)) v y n).1.1, (si.step2 (n :: m.drop (i + 1)) v y n).1.1) := rfl
      have S2 := S.g2
      generalize si.swapStep (n :: m.drop (i + 1)) v y n = sn at hst hbox hgo'
      generalize si.step2 (n :: m.drop (i + 1)) v y n = r2 at mk2 hst S2
      generalize si.step1 (n :: m.drop (i + 1)) v y n = r1 at mk1 mk2 hst sd3 sd4
      obtain ⟨⟨o1, z1⟩, t1⟩ := r1
      obtain ⟨⟨o2, z2⟩, t2⟩ := r2
      dsimp only at mk1 mk2 hst S2 sd3 sd4
      have W2 := S2.wf
      have hhas2 : t2.has n = true := S2.sub n (by simp)
      have hl2 := W2.lt hhas2
      have hl0 : 0 ≤ n - 2 := by omega
      have hn6 : n ≤ 1000000 := by have := wf_N Wi; omega
      have hSCu : SlC u 3 a' cap' (ints m) := hSC4.keep fun g hg => (hSw.out (hSC4.lt hg) (hC0 g hg)).2
      have hCu0 : ∀ g, blk a' = some g → own2 g = 0 := fun g hg => (hSw.out (hSC4.lt hg) (hC0 g hg)).1
      clear S I q1 q2 ok okl okh hz hnd' hn0 Wi a1 a2 a3 a4 hgo hgo' hbox0 sL sH e3 e4 hni hInS
      obtain ⟨gC, curC, rfl, hgC, hcC, _, hatC⟩ := hSCu.at (i := i) (v := .int .i64 n) (by rw [List.getElem?_map, hn]; rfl)
      rw [List.length_map] at hcC
      have hltC : (i : Int) < m.length := by omega
      obtain ⟨pa, na, nc, sc, oc, hX⟩ := id hIu
      obtain ⟨g, cur, rfl, hg, hc, hlt2, x0, x1, x2, hsz3, hex⟩ := hX.no.at hxi
      have hp := hX.at_
      have c2 := hX.rc.c1
      have hsz := hX.rc.size
      have hpl := lt_of_heap hp
      have hgl := lt_of_heap hg
      have hglC := lt_of_heap hgC
      have hli1 := hli.2
      refine w_ fun d => ?_
      refine s_wide (xw_ ?_)
      refine dw_ ?_
      refine xf2A fun v1 hF1 hw1 => ?_
      have hs1 := sz_ hF1
      refine krA ?_
      refine kv ?_
      refine ⟨ext_, ?_⟩
      refine dw_ ?_
      refine xf2A fun v2 hF2 hw2 => ?_
      have hs2 := sz_ hw2
      have hz2 := hw2.at (alloc_new (w := v1) (o := .cells #[.int .i64 0, .int .i64 0, .int .i64 0] 90))
      refine krA ?_
      refine ks ?_
      refine ⟨ext_, ?_⟩
      refine dw_ ?_
      refine xf_nil fun v3 hF3 => ?_
      have hE3 : Ext u v3 := Ext.trans (by exact ext_) hF3
      have hb3 : v3.heap[v1.heap.size]? = some (.cells #[.int .i64 v, .int .i64 Lo, .int .i64 Hi] 90) := hF3.at (hA rfl)
      obtain ⟨bk, hbk⟩ : ∃ bk, v1.heap.size = bk := ⟨_, rfl⟩
      rw [hbk] at hb3
      have hub : u.heap.size ≤ bk := by omega
      have hbl3 := lt_of_heap hb3
      rw [hbk]
      clear hF3 hz2 hw2 hF2 hw1 hs2 hs1 hF1 hbk
      clear v2 v1
      have hbo3 : own2 bk = 0 := by
        cases ho : own2 bk with
        | zero => rfl
        | succ q => have := hIu.lt bk (by omega); omega
      have hSC3 := hSCu.ext hE3
      have s1 := sd1 _ hE3
      have s2 := sd2 _ hE3
      clear sd1 sd2 hp hg hgC x0 x1 x2 hsz3 hex hatC hX c2 hxi
      refine s_draw (XD_ext ?_)
      refine de_ ?_
      refine xe2w fun v4 hE4 => ?_
      have hE4u := hE3.trans hE4
      have hb4 := hE4.at hb3
      have hbl4 := lt_of_heap hb4
      have hSC4' := hSC3.ext hE4
      refine krA ?_
      refine ke ?_
      refine (mk1 _ hE4u hSC4').mono ?_
      rintro _ v5 ⟨rfl, own5, hR5, hSw5⟩
      refine de_ ?_
      refine xn_ fun v6 hE6 hs6 => ?_
      have hb6 := hE6.at (((hSw5.out hbl4 hbo3).2).trans hb4)
      have hbo5 := (hSw5.out hbl4 hbo3).1
      have hbl6 := lt_of_heap hb6
      have hC5 : ∀ g, blk (some (⟨gC, 0, none⟩ : Addr)) = some g → own5 g = 0 := fun g hg => (hSw5.out (hSC4'.lt hg) (hCu0 g hg)).1
      have hSC6 : SlC v6 3 (some ⟨gC, 0, none⟩) cap' (ints m) := SlC.ext (hSC4'.keep fun g hg => (hSw5.out (hSC4'.lt hg) (hCu0 g hg)).2) hE6
      have hSw6 := ((hSw.ext hE4u).trans hSw5).ext hE6
      have hR6 := hR5.ext hE6
      have s3 := sd3 _ _ hR6
      have s4 := sd4 _ _ hR6
      clear s1 s2 mk1 sd3 sd4 hE3 hE4 hE4u hb3 hbl3 hb4 hbl4 hSC3 hSC4' hR5 hSw5 hE6 hs6 hbo3
      refine w_ fun d => ?_
      refine s_draw (XD_ext ?_)
      refine de_ ?_
      refine xe2w fun v7 hE7 => ?_
      have hb7 := hE7.at hb6
      have hbl7 := lt_of_heap hb7
      have hSC7 := hSC6.ext hE7
      refine krA ?_
      refine ke ?_
      refine (mk2 _ _ (hR6.ext hE7) hSC7).mono ?_
      rintro _ v8 ⟨rfl, own8, hR8, hSw8⟩
      refine de_ ?_
      refine xn_ fun v9 hE9 hs9 => ?_
      have hSC9 : SlC v9 3 (some ⟨gC, 0, none⟩) cap' (ints m) := SlC.ext (hSC7.keep fun g hg => (hSw8.out (hSC7.lt hg) (hC5 g hg)).2) hE9
      have hSw9 := ((hSw6.ext hE7).trans hSw8).ext hE9
      have hR9 := hR8.ext hE9
      clear s3 s4 mk2 hR6 hE7 hb7 hbl7 hSC7 hR8 hSw8 hE9 hs9 hb6 hbl6 hSC6 hSw6 hbo5
      obtain ⟨gC', curC', hgCe, hgC9, _, _, hatC9⟩ := hSC9.at (i := i) (v := .int .i64 n) (by rw [List.getElem?_map, hn]; rfl)
      cases hgCe
      obtain ⟨pa9, na9, nc9, sc9, oc9, hX9⟩ := hR9
      have hk9 : (n - 2).toNat < t2.N.length := by omega
      obtain ⟨z9, hz9⟩ : ∃ z, t2.N[(n - 2).toNat]? = some z := ⟨t2.N[(n - 2).toNat], List.getElem?_eq_getElem hk9⟩
      obtain ⟨g9, cur9, rfl, hg9, hc9, _, _, _, _, hsz9, _⟩ := hX9.no.at (v := z9.1) (lo := z9.2.1) (hi := z9.2.2) hz9
      have hp9 := hX9.at_
      have c9 := hX9.rc.c1
      have hscz9 := hX9.rc.size
      have hgl9 := lt_of_heap hg9
      have hgC9l := lt_of_heap hgC9
      have hl29 := hl2.2
      obtain ⟨hX10, hC10⟩ := hX9.setNode hg9 hk9 (y, o1, o2)
      have hSw10 := hSw9.trans ⟨fun _ _ => rfl, Chg.foot hC10 (by decide)⟩
      have hlay : sn = ⟨t2.a, t2.N.set (n - 2).toNat (y, o1, o2), t2.ord⟩ := hst
      rw [← hlay] at hX10
      clear hX9 hC10 hSw9 hst hlay hz9 hk9 hn hSCu hIu hI4
      refine w_ fun d => ?_
      exact ⟨⟨i + 1, own8, sn, by omega, eA rfl, ⟨_, _, _, _, _, hX10.ext ext_⟩, hSw10.ext ext_, hbox⟩, mA⟩
    · obtain rfl : i = m.length := by omega
      rw [List.drop_length] at hgo
      have hff : si = fin := hgo
      subst hff
      have hSwf := hSww.trans hSw
      clear I hgo
      refine w_ fun d => ?_
      exact ⟨rfl, own2, hIu, hSwf⟩
end
end Go.Proofs.YtpeindhocndmnaaGreat

namespace Go.Proofs.YtpeindhocndmnaaGreat
open Go Go.Bx
set_option linter.unusedSimpArgs false
set_option linter.unusedVariables false
set_option maxRecDepth 100000
theorem tmod_pk (n : Int) {b : Int} (hb : 0 < b) : -b < n.tmod b ∧ n.tmod b < b ∧ (n.tmod b < 0 → n.tmod b + b = n % b) ∧ (0 ≤ n.tmod b → n.tmod b = n % b) := by
  have h1 := Int.mul_tdiv_add_tmod n b
  have h2 : n.tmod b < b := Int.tmod_lt_of_pos n hb
  have h3 : -b < n.tmod b := Int.lt_tmod_of_pos n hb
  have h4 : n % b = n.tmod b % b := by
    conv => lhs; rw [← h1]
    rw [Int.add_comm, Int.add_mul_emod_self_left]
  refine ⟨h3, h2, fun h => ?_, fun h => ?_⟩
  · rw [h4, ← Int.add_emod_right, Int.emod_eq_of_lt (by omega) (by omega)]
  · rw [h4, Int.emod_eq_of_lt h h2]
theorem pick_calls (n b : Int) (hb : 0 < b) (hm : b ≤ 4611686018427387904) (w : World) :
    CallsR Tryz.prog 36 #[.int .i64 n, .int .i64 b] w fun r w' => r = .int .i64 (n % b) ∧ Ext w w' := by
  obtain ⟨h3, h4, h5, h6⟩ := tmod_pk n hb
  have hb0 : b ≠ 0 := by omega
  refine calls2 (bs := []) Tryz.func36 rfl mixed (by kernel_rfl) ?_
  intro e0 h0 h1
  simp only [comp, gop, gslot, dops, bigOf, setK, drawOf, drawOf2, dopsW, setW, dopsR, setR, kindOf, List.lookup, List.map_cons, List.map_nil, Option.bind_some, List.getElem?_toArray, List.getElem?_cons_zero, List.getElem?_cons_succ, Option.getD_some, Option.getD_none, List.contains_nil, List.contains_cons, Bool.false_eq_true, ↓reduceIte, Nat.reduceAdd, Nat.reduceBEq, Bool.or_false]
  refine X_seq fun K hK => ?_
  simp only [X_reg, thenX_normal]
  repeat (first | (refine xo (by simp (disch := first | assumption | omega | (with_unfolding_all exact id rfl) | exact Nat.le_of_ble_eq_true rfl | fail) only [Bool.not_true, Bool.not_false, vR_ok, uR_ok, ev_tmp, ev_const, ev_func, Env.put_some, Env.put_none, Env.set_app, Nat.reduceEqDiff, ↓reduceIte, rG_move, rG_assign, opt1_some, ext_all, dec_t, dec_f, beq_t, beq_f, bne_t, bne_f, wrap_i64, wrap_u64, Int.toNat_natCast, Nat.mul_one, Nat.zero_add, Nat.add_zero, List.map_toArray, List.map_cons, List.map_nil, rG_binOp, binR_add, resM_1, binR_rem, binR_lss] <;> rfl) ?_; first | with_reducible refine kv ?_ | with_reducible refine ks ?_ | with_reducible refine ke ?_) | (refine xo_t ?_ ?_; focus (simp (disch := first | assumption | omega | (with_unfolding_all exact id rfl) | exact Nat.le_of_ble_eq_true rfl | fail) only [Env.put_some, Env.put_none, Env.set_app, Nat.reduceEqDiff, ↓reduceIte, Bool.not_true, Bool.not_false]; done)) | (refine xo_f ?_ ?_; focus (simp (disch := first | assumption | omega | (with_unfolding_all exact id rfl) | exact Nat.le_of_ble_eq_true rfl | fail) only [Env.put_some, Env.put_none, Env.set_app, Nat.reduceEqDiff, ↓reduceIte, Bool.not_true, Bool.not_false]; done)) | (refine xo_u ?_ ?_; focus (simp (disch := first | assumption | omega | (with_unfolding_all exact id rfl) | exact Nat.le_of_ble_eq_true rfl | fail) only [Env.put_some, Env.put_none, Env.set_app, Nat.reduceEqDiff, ↓reduceIte, Bool.not_true, Bool.not_false]; done)))
  refine xo_nil ?_
  refine hK _ _ ?_
  clear hK K
  refine X_seq fun K hK => ?_
  simp only [X_reg, thenX_normal]
  repeat (first | (refine xo (by simp (disch := first | assumption | omega | (with_unfolding_all exact id rfl) | exact Nat.le_of_ble_eq_true rfl | fail) only [Bool.not_true, Bool.not_false, vR_ok, uR_ok, ev_tmp, ev_const, ev_func, Env.put_some, Env.put_none, Env.set_app, Nat.reduceEqDiff, ↓reduceIte, rG_move, rG_assign, opt1_some, ext_all, dec_t, dec_f, beq_t, beq_f, bne_t, bne_f, wrap_i64, wrap_u64, Int.toNat_natCast, Nat.mul_one, Nat.zero_add, Nat.add_zero, List.map_toArray, List.map_cons, List.map_nil, rG_binOp, binR_add, resM_1, binR_rem, binR_lss, h0, h1] <;> rfl) ?_; first | with_reducible refine kv ?_ | with_reducible refine ks ?_ | with_reducible refine ke ?_) | (refine xo_t ?_ ?_; focus (simp (disch := first | assumption | omega | (with_unfolding_all exact id rfl) | exact Nat.le_of_ble_eq_true rfl | fail) only [Env.put_some, Env.put_none, Env.set_app, Nat.reduceEqDiff, ↓reduceIte, Bool.not_true, Bool.not_false, h0, h1]; done)) | (refine xo_f ?_ ?_; focus (simp (disch := first | assumption | omega | (with_unfolding_all exact id rfl) | exact Nat.le_of_ble_eq_true rfl | fail) only [Env.put_some, Env.put_none, Env.set_app, Nat.reduceEqDiff, ↓reduceIte, Bool.not_true, Bool.not_false, h0, h1]; done)) | (refine xo_u ?_ ?_; focus (simp (disch := first | assumption | omega | (with_unfolding_all exact id rfl) | exact Nat.le_of_ble_eq_true rfl | fail) only [Env.put_some, Env.put_none, Env.set_app, Nat.reduceEqDiff, ↓reduceIte, Bool.not_true, Bool.not_false, h0, h1]; done)))
  refine xo_nil ?_
  refine hK _ _ ?_
  clear hK K
  by_cases hn : n.tmod b < 0
  · refine X_cut (fun e w' => e 0 = .int .i64 (n % b) ∧ Ext w w') ?_ ?_
    · refine X_seq fun K hK => ?_
      simp only [X_reg, thenX_normal]
      repeat (first | (refine xo (by simp (disch := first | assumption | omega | (with_unfolding_all exact id rfl) | exact Nat.le_of_ble_eq_true rfl | fail) only [Bool.not_true, Bool.not_false, vR_ok, uR_ok, ev_tmp, ev_const, ev_func, Env.put_some, Env.put_none, Env.set_app, Nat.reduceEqDiff, ↓reduceIte, rG_move, rG_assign, opt1_some, ext_all, dec_t, dec_f, beq_t, beq_f, bne_t, bne_f, wrap_i64, wrap_u64, Int.toNat_natCast, Nat.mul_one, Nat.zero_add, Nat.add_zero, List.map_toArray, List.map_cons, List.map_nil, rG_binOp, binR_add, resM_1, binR_rem, binR_lss] <;> rfl) ?_; first | with_reducible refine kv ?_ | with_reducible refine ks ?_ | with_reducible refine ke ?_) | (refine xo_t ?_ ?_; focus (simp (disch := first | assumption | omega | (with_unfolding_all exact id rfl) | exact Nat.le_of_ble_eq_true rfl | fail) only [Env.put_some, Env.put_none, Env.set_app, Nat.reduceEqDiff, ↓reduceIte, Bool.not_true, Bool.not_false]; done)) | (refine xo_f ?_ ?_; focus (simp (disch := first | assumption | omega | (with_unfolding_all exact id rfl) | exact Nat.le_of_ble_eq_true rfl | fail) only [Env.put_some, Env.put_none, Env.set_app, Nat.reduceEqDiff, ↓reduceIte, Bool.not_true, Bool.not_false]; done)) | (refine xo_u ?_ ?_; focus (simp (disch := first | assumption | omega | (with_unfolding_all exact id rfl) | exact Nat.le_of_ble_eq_true rfl | fail) only [Env.put_some, Env.put_none, Env.set_app, Nat.reduceEqDiff, ↓reduceIte, Bool.not_true, Bool.not_false]; done)))
      refine xo_nil ?_
      refine hK _ _ ?_
      clear hK K
      refine X_if_t (by simp (disch := first | assumption | omega) only [ev_tmp, Env.put_some, Env.put_none, Env.set_app, Nat.reduceEqDiff, ↓reduceIte, beq_t, dec_t, beq_self_eq_true]) ?_
      (try simp only [X_reg, thenX_normal])
      repeat (first | (refine xo (by simp (disch := first | assumption | omega | (with_unfolding_all exact id rfl) | exact Nat.le_of_ble_eq_true rfl | fail) only [Bool.not_true, Bool.not_false, vR_ok, uR_ok, ev_tmp, ev_const, ev_func, Env.put_some, Env.put_none, Env.set_app, Nat.reduceEqDiff, ↓reduceIte, rG_move, rG_assign, opt1_some, ext_all, dec_t, dec_f, beq_t, beq_f, bne_t, bne_f, wrap_i64, wrap_u64, Int.toNat_natCast, Nat.mul_one, Nat.zero_add, Nat.add_zero, List.map_toArray, List.map_cons, List.map_nil, rG_binOp, binR_add, resM_1, binR_rem, binR_lss, h1] <;> rfl) ?_; first | with_reducible refine kv ?_ | with_reducible refine ks ?_ | with_reducible refine ke ?_) | (refine xo_t ?_ ?_; focus (simp (disch := first | assumption | omega | (with_unfolding_all exact id rfl) | exact Nat.le_of_ble_eq_true rfl | fail) only [Env.put_some, Env.put_none, Env.set_app, Nat.reduceEqDiff, ↓reduceIte, Bool.not_true, Bool.not_false, h1]; done)) | (refine xo_f ?_ ?_; focus (simp (disch := first | assumption | omega | (with_unfolding_all exact id rfl) | exact Nat.le_of_ble_eq_true rfl | fail) only [Env.put_some, Env.put_none, Env.set_app, Nat.reduceEqDiff, ↓reduceIte, Bool.not_true, Bool.not_false, h1]; done)) | (refine xo_u ?_ ?_; focus (simp (disch := first | assumption | omega | (with_unfolding_all exact id rfl) | exact Nat.le_of_ble_eq_true rfl | fail) only [Env.put_some, Env.put_none, Env.set_app, Nat.reduceEqDiff, ↓reduceIte, Bool.not_true, Bool.not_false, h1]; done)))
      refine xo_nil ⟨?_, Ext.refl w⟩
      (try simp (disch := first | assumption | omega | (with_unfolding_all exact id rfl) | exact Nat.le_of_ble_eq_true rfl | fail) only [Env.put_some, Env.put_none, Env.set_app, Nat.reduceEqDiff, ↓reduceIte, nat_int, Int.toNat_natCast, wrap_i64])
      rw [h5 hn]
    · rintro e w1 ⟨h0', hE⟩
      refine X_seq fun K hK => ?_
      simp only [X_reg, thenX_normal]
      repeat (first | (refine xo (by simp (disch := first | assumption | omega | (with_unfolding_all exact id rfl) | exact Nat.le_of_ble_eq_true rfl | fail) only [Bool.not_true, Bool.not_false, vR_ok, uR_ok, ev_tmp, ev_const, ev_func, Env.put_some, Env.put_none, Env.set_app, Nat.reduceEqDiff, ↓reduceIte, rG_move, rG_assign, opt1_some, ext_all, dec_t, dec_f, beq_t, beq_f, bne_t, bne_f, wrap_i64, wrap_u64, Int.toNat_natCast, Nat.mul_one, Nat.zero_add, Nat.add_zero, List.map_toArray, List.map_cons, List.map_nil, rG_binOp, binR_add, resM_1, binR_rem, binR_lss, h0'] <;> rfl) ?_; first | with_reducible refine kv ?_ | with_reducible refine ks ?_ | with_reducible refine ke ?_) | (refine xo_t ?_ ?_; focus (simp (disch := first | assumption | omega | (with_unfolding_all exact id rfl) | exact Nat.le_of_ble_eq_true rfl | fail) only [Env.put_some, Env.put_none, Env.set_app, Nat.reduceEqDiff, ↓reduceIte, Bool.not_true, Bool.not_false, h0']; done)) | (refine xo_f ?_ ?_; focus (simp (disch := first | assumption | omega | (with_unfolding_all exact id rfl) | exact Nat.le_of_ble_eq_true rfl | fail) only [Env.put_some, Env.put_none, Env.set_app, Nat.reduceEqDiff, ↓reduceIte, Bool.not_true, Bool.not_false, h0']; done)) | (refine xo_u ?_ ?_; focus (simp (disch := first | assumption | omega | (with_unfolding_all exact id rfl) | exact Nat.le_of_ble_eq_true rfl | fail) only [Env.put_some, Env.put_none, Env.set_app, Nat.reduceEqDiff, ↓reduceIte, Bool.not_true, Bool.not_false, h0']; done)))
      refine xo_nil ?_
      refine hK _ _ ?_
      clear hK K
      simp (disch := first | assumption | omega | (with_unfolding_all exact id rfl) | exact Nat.le_of_ble_eq_true rfl | fail) only [X_ret, thenX_ret, inX_ret, retX_ret, retX_normal, Tryz.results36, resM_0, resM_1, resM_2, resM_3, resM_4, Env.put_some, Env.put_none, Env.set_app, Nat.reduceEqDiff, ↓reduceIte]
      exact ⟨_, rfl, rfl, hE⟩
  · refine X_cut (fun e w' => e 0 = .int .i64 (n % b) ∧ Ext w w') ?_ ?_
    · refine X_seq fun K hK => ?_
      simp only [X_reg, thenX_normal]
      repeat (first | (refine xo (by simp (disch := first | assumption | omega | (with_unfolding_all exact id rfl) | exact Nat.le_of_ble_eq_true rfl | fail) only [Bool.not_true, Bool.not_false, vR_ok, uR_ok, ev_tmp, ev_const, ev_func, Env.put_some, Env.put_none, Env.set_app, Nat.reduceEqDiff, ↓reduceIte, rG_move, rG_assign, opt1_some, ext_all, dec_t, dec_f, beq_t, beq_f, bne_t, bne_f, wrap_i64, wrap_u64, Int.toNat_natCast, Nat.mul_one, Nat.zero_add, Nat.add_zero, List.map_toArray, List.map_cons, List.map_nil, rG_binOp, binR_add, resM_1, binR_rem, binR_lss] <;> rfl) ?_; first | with_reducible refine kv ?_ | with_reducible refine ks ?_ | with_reducible refine ke ?_) | (refine xo_t ?_ ?_; focus (simp (disch := first | assumption | omega | (with_unfolding_all exact id rfl) | exact Nat.le_of_ble_eq_true rfl | fail) only [Env.put_some, Env.put_none, Env.set_app, Nat.reduceEqDiff, ↓reduceIte, Bool.not_true, Bool.not_false]; done)) | (refine xo_f ?_ ?_; focus (simp (disch := first | assumption | omega | (with_unfolding_all exact id rfl) | exact Nat.le_of_ble_eq_true rfl | fail) only [Env.put_some, Env.put_none, Env.set_app, Nat.reduceEqDiff, ↓reduceIte, Bool.not_true, Bool.not_false]; done)) | (refine xo_u ?_ ?_; focus (simp (disch := first | assumption | omega | (with_unfolding_all exact id rfl) | exact Nat.le_of_ble_eq_true rfl | fail) only [Env.put_some, Env.put_none, Env.set_app, Nat.reduceEqDiff, ↓reduceIte, Bool.not_true, Bool.not_false]; done)))
      refine xo_nil ?_
      refine hK _ _ ?_
      clear hK K
      refine X_if_f (by simp (disch := first | assumption | omega) only [ev_tmp, Env.put_some, Env.put_none, Env.set_app, Nat.reduceEqDiff, ↓reduceIte, beq_f, dec_f]) ?_
      simp only [X_skip, X_exit, X_ret, X_block, thenX_normal, thenX_ret, thenX_exit, inX_normal, inX_ret, inX_exit, ↓reduceIte, Nat.reduceEqDiff]
      refine ⟨?_, Ext.refl w⟩
      (try simp (disch := first | assumption | omega | (with_unfolding_all exact id rfl) | exact Nat.le_of_ble_eq_true rfl | fail) only [Env.put_some, Env.put_none, Env.set_app, Nat.reduceEqDiff, ↓reduceIte, nat_int, Int.toNat_natCast, wrap_i64])
      rw [h6 (by omega)]
    · rintro e w1 ⟨h0', hE⟩
      refine X_seq fun K hK => ?_
      simp only [X_reg, thenX_normal]
      repeat (first | (refine xo (by simp (disch := first | assumption | omega | (with_unfolding_all exact id rfl) | exact Nat.le_of_ble_eq_true rfl | fail) only [Bool.not_true, Bool.not_false, vR_ok, uR_ok, ev_tmp, ev_const, ev_func, Env.put_some, Env.put_none, Env.set_app, Nat.reduceEqDiff, ↓reduceIte, rG_move, rG_assign, opt1_some, ext_all, dec_t, dec_f, beq_t, beq_f, bne_t, bne_f, wrap_i64, wrap_u64, Int.toNat_natCast, Nat.mul_one, Nat.zero_add, Nat.add_zero, List.map_toArray, List.map_cons, List.map_nil, rG_binOp, binR_add, resM_1, binR_rem, binR_lss, h0'] <;> rfl) ?_; first | with_reducible refine kv ?_ | with_reducible refine ks ?_ | with_reducible refine ke ?_) | (refine xo_t ?_ ?_; focus (simp (disch := first | assumption | omega | (with_unfolding_all exact id rfl) | exact Nat.le_of_ble_eq_true rfl | fail) only [Env.put_some, Env.put_none, Env.set_app, Nat.reduceEqDiff, ↓reduceIte, Bool.not_true, Bool.not_false, h0']; done)) | (refine xo_f ?_ ?_; focus (simp (disch := first | assumption | omega | (with_unfolding_all exact id rfl) | exact Nat.le_of_ble_eq_true rfl | fail) only [Env.put_some, Env.put_none, Env.set_app, Nat.reduceEqDiff, ↓reduceIte, Bool.not_true, Bool.not_false, h0']; done)) | (refine xo_u ?_ ?_; focus (simp (disch := first | assumption | omega | (with_unfolding_all exact id rfl) | exact Nat.le_of_ble_eq_true rfl | fail) only [Env.put_some, Env.put_none, Env.set_app, Nat.reduceEqDiff, ↓reduceIte, Bool.not_true, Bool.not_false, h0']; done)))
      refine xo_nil ?_
      refine hK _ _ ?_
      clear hK K
      simp (disch := first | assumption | omega | (with_unfolding_all exact id rfl) | exact Nat.le_of_ble_eq_true rfl | fail) only [X_ret, thenX_ret, inX_ret, retX_ret, retX_normal, Tryz.results36, resM_0, resM_1, resM_2, resM_3, resM_4, Env.put_some, Env.put_none, Env.set_app, Nat.reduceEqDiff, ↓reduceIte]
      exact ⟨_, rfl, rfl, hE⟩
theorem errV_zero : errV 0 = .nilIface := rfl
theorem errV_of {c : Int} (h : c ≠ 0) : errV c = .iface 72 (.int .i64 c) := if_neg h
theorem code_calls (c : Int) (h0 : 0 ≤ c) (h8 : c ≤ 8) (w : World) :
    CallsR Tryz.prog 9 #[errV c] w fun r w' => r = .int .i64 c ∧ Ext w w' := by
  refine calls1 (bs := []) Tryz.func9 rfl mixed (by kernel_rfl) ?_
  intro e0 h0
  simp only [comp, gop, gslot, dops, bigOf, setK, drawOf, drawOf2, dopsW, setW, dopsR, setR, kindOf, List.lookup, List.map_cons, List.map_nil, Option.bind_some, List.getElem?_toArray, List.getElem?_cons_zero, List.getElem?_cons_succ, Option.getD_some, Option.getD_none, List.contains_nil, List.contains_cons, Bool.false_eq_true, ↓reduceIte, Nat.reduceAdd, Nat.reduceBEq, Bool.or_false]
  refine X_seq fun K hK => ?_
  simp only [X_reg, thenX_normal]
  repeat (first | (refine xo (by simp (disch := first | assumption | omega | (with_unfolding_all exact id rfl) | exact Nat.le_of_ble_eq_true rfl | fail) only [Bool.not_true, Bool.not_false, vR_ok, uR_ok, ev_tmp, ev_const, ev_func, Env.put_some, Env.put_none, Env.set_app, Nat.reduceEqDiff, ↓reduceIte, rG_move, rG_assign, opt1_some, ext_all, dec_t, dec_f, beq_t, beq_f, bne_t, bne_f, wrap_i64, wrap_u64, Int.toNat_natCast, Nat.mul_one, Nat.zero_add, Nat.add_zero, List.map_toArray, List.map_cons, List.map_nil, rG_binOp, binR_leq, mi72, resM_1, binR_add, ceql_nn_32, ceql_in_32, ceql_ni_32, ceql_ii_32_72] <;> rfl) ?_; first | with_reducible refine kv ?_ | with_reducible refine ks ?_ | with_reducible refine ke ?_) | (refine xo_t ?_ ?_; focus (simp (disch := first | assumption | omega | (with_unfolding_all exact id rfl) | exact Nat.le_of_ble_eq_true rfl | fail) only [Env.put_some, Env.put_none, Env.set_app, Nat.reduceEqDiff, ↓reduceIte, Bool.not_true, Bool.not_false]; done)) | (refine xo_f ?_ ?_; focus (simp (disch := first | assumption | omega | (with_unfolding_all exact id rfl) | exact Nat.le_of_ble_eq_true rfl | fail) only [Env.put_some, Env.put_none, Env.set_app, Nat.reduceEqDiff, ↓reduceIte, Bool.not_true, Bool.not_false]; done)) | (refine xo_u ?_ ?_; focus (simp (disch := first | assumption | omega | (with_unfolding_all exact id rfl) | exact Nat.le_of_ble_eq_true rfl | fail) only [Env.put_some, Env.put_none, Env.set_app, Nat.reduceEqDiff, ↓reduceIte, Bool.not_true, Bool.not_false]; done)))
  refine xo_nil ?_
  refine hK _ _ ?_
  clear hK K
  by_cases hc : c = 0
  · subst hc
    rw [errV_zero] at h0
    refine X_seq fun K hK => ?_
    refine X_seq fun K hK => ?_
    simp only [X_reg, thenX_normal]
    repeat (first | (refine xo (by simp (disch := first | assumption | omega | (with_unfolding_all exact id rfl) | exact Nat.le_of_ble_eq_true rfl | fail) only [Bool.not_true, Bool.not_false, vR_ok, uR_ok, ev_tmp, ev_const, ev_func, Env.put_some, Env.put_none, Env.set_app, Nat.reduceEqDiff, ↓reduceIte, rG_move, rG_assign, opt1_some, ext_all, dec_t, dec_f, beq_t, beq_f, bne_t, bne_f, wrap_i64, wrap_u64, Int.toNat_natCast, Nat.mul_one, Nat.zero_add, Nat.add_zero, List.map_toArray, List.map_cons, List.map_nil, rG_binOp, binR_leq, mi72, resM_1, binR_add, ceql_nn_32, ceql_in_32, ceql_ni_32, ceql_ii_32_72, h0] <;> rfl) ?_; first | with_reducible refine kv ?_ | with_reducible refine ks ?_ | with_reducible refine ke ?_) | (refine xo_t ?_ ?_; focus (simp (disch := first | assumption | omega | (with_unfolding_all exact id rfl) | exact Nat.le_of_ble_eq_true rfl | fail) only [Env.put_some, Env.put_none, Env.set_app, Nat.reduceEqDiff, ↓reduceIte, Bool.not_true, Bool.not_false, h0]; done)) | (refine xo_f ?_ ?_; focus (simp (disch := first | assumption | omega | (with_unfolding_all exact id rfl) | exact Nat.le_of_ble_eq_true rfl | fail) only [Env.put_some, Env.put_none, Env.set_app, Nat.reduceEqDiff, ↓reduceIte, Bool.not_true, Bool.not_false, h0]; done)) | (refine xo_u ?_ ?_; focus (simp (disch := first | assumption | omega | (with_unfolding_all exact id rfl) | exact Nat.le_of_ble_eq_true rfl | fail) only [Env.put_some, Env.put_none, Env.set_app, Nat.reduceEqDiff, ↓reduceIte, Bool.not_true, Bool.not_false, h0]; done)))
    refine xo_nil ?_
    refine hK _ _ ?_
    clear hK K
    refine X_if_t (by simp (disch := first | assumption | omega) only [ev_tmp, Env.put_some, Env.put_none, Env.set_app, Nat.reduceEqDiff, ↓reduceIte, beq_t, dec_t, beq_self_eq_true]) ?_
    refine X_seq fun K hK => ?_
    simp only [X_reg, thenX_normal]
    repeat (first | (refine xo (by simp (disch := first | assumption | omega | (with_unfolding_all exact id rfl) | exact Nat.le_of_ble_eq_true rfl | fail) only [Bool.not_true, Bool.not_false, vR_ok, uR_ok, ev_tmp, ev_const, ev_func, Env.put_some, Env.put_none, Env.set_app, Nat.reduceEqDiff, ↓reduceIte, rG_move, rG_assign, opt1_some, ext_all, dec_t, dec_f, beq_t, beq_f, bne_t, bne_f, wrap_i64, wrap_u64, Int.toNat_natCast, Nat.mul_one, Nat.zero_add, Nat.add_zero, List.map_toArray, List.map_cons, List.map_nil, rG_binOp, binR_leq, mi72, resM_1, binR_add, ceql_nn_32, ceql_in_32, ceql_ni_32, ceql_ii_32_72] <;> rfl) ?_; first | with_reducible refine kv ?_ | with_reducible refine ks ?_ | with_reducible refine ke ?_) | (refine xo_t ?_ ?_; focus (simp (disch := first | assumption | omega | (with_unfolding_all exact id rfl) | exact Nat.le_of_ble_eq_true rfl | fail) only [Env.put_some, Env.put_none, Env.set_app, Nat.reduceEqDiff, ↓reduceIte, Bool.not_true, Bool.not_false]; done)) | (refine xo_f ?_ ?_; focus (simp (disch := first | assumption | omega | (with_unfolding_all exact id rfl) | exact Nat.le_of_ble_eq_true rfl | fail) only [Env.put_some, Env.put_none, Env.set_app, Nat.reduceEqDiff, ↓reduceIte, Bool.not_true, Bool.not_false]; done)) | (refine xo_u ?_ ?_; focus (simp (disch := first | assumption | omega | (with_unfolding_all exact id rfl) | exact Nat.le_of_ble_eq_true rfl | fail) only [Env.put_some, Env.put_none, Env.set_app, Nat.reduceEqDiff, ↓reduceIte, Bool.not_true, Bool.not_false]; done)))
    refine xo_nil ?_
    refine hK _ _ ?_
    clear hK K
    simp (disch := first | assumption | omega | (with_unfolding_all exact id rfl) | exact Nat.le_of_ble_eq_true rfl | fail) only [X_ret, thenX_ret, inX_ret, retX_ret, retX_normal, Tryz.results9, resM_0, resM_1, resM_2, resM_3, resM_4, Env.put_some, Env.put_none, Env.set_app, Nat.reduceEqDiff, ↓reduceIte]
    exact ⟨_, rfl, rfl, Ext.refl w⟩
  · rw [errV_of hc] at h0
    refine X_seq fun K hK => ?_
    refine X_seq fun K hK => ?_
    simp only [X_reg, thenX_normal]
    repeat (first | (refine xo (by simp (disch := first | assumption | omega | (with_unfolding_all exact id rfl) | exact Nat.le_of_ble_eq_true rfl | fail) only [Bool.not_true, Bool.not_false, vR_ok, uR_ok, ev_tmp, ev_const, ev_func, Env.put_some, Env.put_none, Env.set_app, Nat.reduceEqDiff, ↓reduceIte, rG_move, rG_assign, opt1_some, ext_all, dec_t, dec_f, beq_t, beq_f, bne_t, bne_f, wrap_i64, wrap_u64, Int.toNat_natCast, Nat.mul_one, Nat.zero_add, Nat.add_zero, List.map_toArray, List.map_cons, List.map_nil, rG_binOp, binR_leq, mi72, resM_1, binR_add, ceql_nn_32, ceql_in_32, ceql_ni_32, ceql_ii_32_72, h0] <;> rfl) ?_; first | with_reducible refine kv ?_ | with_reducible refine ks ?_ | with_reducible refine ke ?_) | (refine xo_t ?_ ?_; focus (simp (disch := first | assumption | omega | (with_unfolding_all exact id rfl) | exact Nat.le_of_ble_eq_true rfl | fail) only [Env.put_some, Env.put_none, Env.set_app, Nat.reduceEqDiff, ↓reduceIte, Bool.not_true, Bool.not_false, h0]; done)) | (refine xo_f ?_ ?_; focus (simp (disch := first | assumption | omega | (with_unfolding_all exact id rfl) | exact Nat.le_of_ble_eq_true rfl | fail) only [Env.put_some, Env.put_none, Env.set_app, Nat.reduceEqDiff, ↓reduceIte, Bool.not_true, Bool.not_false, h0]; done)) | (refine xo_u ?_ ?_; focus (simp (disch := first | assumption | omega | (with_unfolding_all exact id rfl) | exact Nat.le_of_ble_eq_true rfl | fail) only [Env.put_some, Env.put_none, Env.set_app, Nat.reduceEqDiff, ↓reduceIte, Bool.not_true, Bool.not_false, h0]; done)))
    refine xo_nil ?_
    refine hK _ _ ?_
    clear hK K
    refine X_if_f (by simp (disch := first | assumption | omega) only [ev_tmp, Env.put_some, Env.put_none, Env.set_app, Nat.reduceEqDiff, ↓reduceIte, beq_f, dec_f]) ?_
    simp only [X_skip, X_exit, X_ret, X_block, thenX_normal, thenX_ret, thenX_exit, inX_normal, inX_ret, inX_exit, ↓reduceIte, Nat.reduceEqDiff]
    (try refine xo_nil ?_)
    refine hK _ _ ?_
    clear hK K
    refine X_cut (fun e w' => False) ?_ ?_
    · refine X_seq fun K hK => ?_
      simp only [X_reg, thenX_normal]
      repeat (first | (refine xo (by simp (disch := first | assumption | omega | (with_unfolding_all exact id rfl) | exact Nat.le_of_ble_eq_true rfl | fail) only [Bool.not_true, Bool.not_false, vR_ok, uR_ok, ev_tmp, ev_const, ev_func, Env.put_some, Env.put_none, Env.set_app, Nat.reduceEqDiff, ↓reduceIte, rG_move, rG_assign, opt1_some, ext_all, dec_t, dec_f, beq_t, beq_f, bne_t, bne_f, wrap_i64, wrap_u64, Int.toNat_natCast, Nat.mul_one, Nat.zero_add, Nat.add_zero, List.map_toArray, List.map_cons, List.map_nil, rG_binOp, binR_leq, mi72, resM_1, binR_add, ceql_nn_32, ceql_in_32, ceql_ni_32, ceql_ii_32_72] <;> rfl) ?_; first | with_reducible refine kv ?_ | with_reducible refine ks ?_ | with_reducible refine ke ?_) | (refine xo_t ?_ ?_; focus (simp (disch := first | assumption | omega | (with_unfolding_all exact id rfl) | exact Nat.le_of_ble_eq_true rfl | fail) only [Env.put_some, Env.put_none, Env.set_app, Nat.reduceEqDiff, ↓reduceIte, Bool.not_true, Bool.not_false]; done)) | (refine xo_f ?_ ?_; focus (simp (disch := first | assumption | omega | (with_unfolding_all exact id rfl) | exact Nat.le_of_ble_eq_true rfl | fail) only [Env.put_some, Env.put_none, Env.set_app, Nat.reduceEqDiff, ↓reduceIte, Bool.not_true, Bool.not_false]; done)) | (refine xo_u ?_ ?_; focus (simp (disch := first | assumption | omega | (with_unfolding_all exact id rfl) | exact Nat.le_of_ble_eq_true rfl | fail) only [Env.put_some, Env.put_none, Env.set_app, Nat.reduceEqDiff, ↓reduceIte, Bool.not_true, Bool.not_false]; done)))
      refine xo_nil ?_
      refine hK _ _ ?_
      clear hK K
      simp only [X_skip, X_exit, X_ret, X_block, thenX_normal, thenX_ret, thenX_exit, inX_normal, inX_ret, inX_exit, ↓reduceIte, Nat.reduceEqDiff]
      refine X_loop (fun e w' => ∃ k : Int, 1 ≤ k ∧ k ≤ c ∧ e 3 = .int .i64 k ∧ e 0 = .iface 72 (.int .i64 c) ∧ Ext w w') (fun e _ => match e 3 with | .int _ n => (9 - n).toNat | _ => 0) ?_ ?_
      · refine ⟨1, by omega, by omega, ?_, ?_, Ext.refl w⟩
        · (try simp (disch := first | assumption | omega | (with_unfolding_all exact id rfl) | exact Nat.le_of_ble_eq_true rfl | fail) only [Env.put_some, Env.put_none, Env.set_app, Nat.reduceEqDiff, ↓reduceIte, nat_int, Int.toNat_natCast, wrap_i64])
        · (try simp (disch := first | assumption | omega | (with_unfolding_all exact id rfl) | exact Nat.le_of_ble_eq_true rfl | fail) only [Env.put_some, Env.put_none, Env.set_app, Nat.reduceEqDiff, ↓reduceIte, nat_int, Int.toNat_natCast, wrap_i64, h0])
      · rintro e w1 ⟨k, hk1, hkc, h3, h0, hE⟩
        refine X_seq fun K hK => ?_
        refine X_seq fun K hK => ?_
        (try simp only [X_reg, thenX_normal])
        repeat (first | (refine xo (by simp (disch := first | assumption | omega | (with_unfolding_all exact id rfl) | exact Nat.le_of_ble_eq_true rfl | fail) only [Bool.not_true, Bool.not_false, vR_ok, uR_ok, ev_tmp, ev_const, ev_func, Env.put_some, Env.put_none, Env.set_app, Nat.reduceEqDiff, ↓reduceIte, rG_move, rG_assign, opt1_some, ext_all, dec_t, dec_f, beq_t, beq_f, bne_t, bne_f, wrap_i64, wrap_u64, Int.toNat_natCast, Nat.mul_one, Nat.zero_add, Nat.add_zero, List.map_toArray, List.map_cons, List.map_nil, rG_binOp, binR_leq, mi72, resM_1, binR_add, ceql_nn_32, ceql_in_32, ceql_ni_32, ceql_ii_32_72, h3] <;> rfl) ?_; first | with_reducible refine kv ?_ | with_reducible refine ks ?_ | with_reducible refine ke ?_) | (refine xo_t ?_ ?_; focus (simp (disch := first | assumption | omega | (with_unfolding_all exact id rfl) | exact Nat.le_of_ble_eq_true rfl | fail) only [Env.put_some, Env.put_none, Env.set_app, Nat.reduceEqDiff, ↓reduceIte, Bool.not_true, Bool.not_false, h3]; done)) | (refine xo_f ?_ ?_; focus (simp (disch := first | assumption | omega | (with_unfolding_all exact id rfl) | exact Nat.le_of_ble_eq_true rfl | fail) only [Env.put_some, Env.put_none, Env.set_app, Nat.reduceEqDiff, ↓reduceIte, Bool.not_true, Bool.not_false, h3]; done)) | (refine xo_u ?_ ?_; focus (simp (disch := first | assumption | omega | (with_unfolding_all exact id rfl) | exact Nat.le_of_ble_eq_true rfl | fail) only [Env.put_some, Env.put_none, Env.set_app, Nat.reduceEqDiff, ↓reduceIte, Bool.not_true, Bool.not_false, h3]; done)))
        (try refine xo_nil ?_)
        refine hK _ _ ?_
        clear hK K
        refine X_if_t (by simp (disch := first | assumption | omega) only [ev_tmp, Env.put_some, Env.put_none, Env.set_app, Nat.reduceEqDiff, ↓reduceIte, beq_t, dec_t, beq_self_eq_true]) ?_
        simp only [X_skip, X_exit, X_ret, X_block, thenX_normal, thenX_ret, thenX_exit, inX_normal, inX_ret, inX_exit, ↓reduceIte, Nat.reduceEqDiff]
        (try refine xo_nil ?_)
        refine hK _ _ ?_
        clear hK K
        refine X_seq fun K hK => ?_
        simp only [X_skip, X_exit, X_ret, X_block, thenX_normal, thenX_ret, thenX_exit, inX_normal, inX_ret, inX_exit, ↓reduceIte, Nat.reduceEqDiff]
        refine X_seq fun K hK => ?_
        simp only [X_reg, thenX_normal]
        repeat (first | (refine xo (by simp (disch := first | assumption | omega | (with_unfolding_all exact id rfl) | exact Nat.le_of_ble_eq_true rfl | fail) only [Bool.not_true, Bool.not_false, vR_ok, uR_ok, ev_tmp, ev_const, ev_func, Env.put_some, Env.put_none, Env.set_app, Nat.reduceEqDiff, ↓reduceIte, rG_move, rG_assign, opt1_some, ext_all, dec_t, dec_f, beq_t, beq_f, bne_t, bne_f, wrap_i64, wrap_u64, Int.toNat_natCast, Nat.mul_one, Nat.zero_add, Nat.add_zero, List.map_toArray, List.map_cons, List.map_nil, rG_binOp, binR_leq, mi72, resM_1, binR_add, ceql_nn_32, ceql_in_32, ceql_ni_32, ceql_ii_32_72, h3, h0] <;> rfl) ?_; first | with_reducible refine kv ?_ | with_reducible refine ks ?_ | with_reducible refine ke ?_) | (refine xo_t ?_ ?_; focus (simp (disch := first | assumption | omega | (with_unfolding_all exact id rfl) | exact Nat.le_of_ble_eq_true rfl | fail) only [Env.put_some, Env.put_none, Env.set_app, Nat.reduceEqDiff, ↓reduceIte, Bool.not_true, Bool.not_false, h3, h0]; done)) | (refine xo_f ?_ ?_; focus (simp (disch := first | assumption | omega | (with_unfolding_all exact id rfl) | exact Nat.le_of_ble_eq_true rfl | fail) only [Env.put_some, Env.put_none, Env.set_app, Nat.reduceEqDiff, ↓reduceIte, Bool.not_true, Bool.not_false, h3, h0]; done)) | (refine xo_u ?_ ?_; focus (simp (disch := first | assumption | omega | (with_unfolding_all exact id rfl) | exact Nat.le_of_ble_eq_true rfl | fail) only [Env.put_some, Env.put_none, Env.set_app, Nat.reduceEqDiff, ↓reduceIte, Bool.not_true, Bool.not_false, h3, h0]; done)))
        refine xo_nil ?_
        refine hK _ _ ?_
        clear hK K
        by_cases hkk : k = c
        · subst hkk
          refine X_if_t (by simp (disch := first | assumption | omega) only [ev_tmp, Env.put_some, Env.put_none, Env.set_app, Nat.reduceEqDiff, ↓reduceIte, beq_t, dec_t, beq_self_eq_true, beq_self_eq_true]) ?_
          refine X_seq fun K hK => ?_
          simp only [X_reg, thenX_normal]
          repeat (first | (refine xo (by simp (disch := first | assumption | omega | (with_unfolding_all exact id rfl) | exact Nat.le_of_ble_eq_true rfl | fail) only [Bool.not_true, Bool.not_false, vR_ok, uR_ok, ev_tmp, ev_const, ev_func, Env.put_some, Env.put_none, Env.set_app, Nat.reduceEqDiff, ↓reduceIte, rG_move, rG_assign, opt1_some, ext_all, dec_t, dec_f, beq_t, beq_f, bne_t, bne_f, wrap_i64, wrap_u64, Int.toNat_natCast, Nat.mul_one, Nat.zero_add, Nat.add_zero, List.map_toArray, List.map_cons, List.map_nil, rG_binOp, binR_leq, mi72, resM_1, binR_add, ceql_nn_32, ceql_in_32, ceql_ni_32, ceql_ii_32_72, h3] <;> rfl) ?_; first | with_reducible refine kv ?_ | with_reducible refine ks ?_ | with_reducible refine ke ?_) | (refine xo_t ?_ ?_; focus (simp (disch := first | assumption | omega | (with_unfolding_all exact id rfl) | exact Nat.le_of_ble_eq_true rfl | fail) only [Env.put_some, Env.put_none, Env.set_app, Nat.reduceEqDiff, ↓reduceIte, Bool.not_true, Bool.not_false, h3]; done)) | (refine xo_f ?_ ?_; focus (simp (disch := first | assumption | omega | (with_unfolding_all exact id rfl) | exact Nat.le_of_ble_eq_true rfl | fail) only [Env.put_some, Env.put_none, Env.set_app, Nat.reduceEqDiff, ↓reduceIte, Bool.not_true, Bool.not_false, h3]; done)) | (refine xo_u ?_ ?_; focus (simp (disch := first | assumption | omega | (with_unfolding_all exact id rfl) | exact Nat.le_of_ble_eq_true rfl | fail) only [Env.put_some, Env.put_none, Env.set_app, Nat.reduceEqDiff, ↓reduceIte, Bool.not_true, Bool.not_false, h3]; done)))
          refine xo_nil ?_
          refine hK _ _ ?_
          clear hK K
          simp only [X_skip, X_exit, X_ret, X_block, thenX_normal, thenX_ret, thenX_exit, inX_normal, inX_ret, inX_exit, ↓reduceIte, Nat.reduceEqDiff]
          simp (disch := first | assumption | omega | (with_unfolding_all exact id rfl) | exact Nat.le_of_ble_eq_true rfl | fail) only [X_ret, thenX_ret, inX_ret, retX_ret, retX_normal, Tryz.results9, resM_0, resM_1, resM_2, resM_3, resM_4, Env.put_some, Env.put_none, Env.set_app, Nat.reduceEqDiff, ↓reduceIte]
          exact ⟨_, rfl, rfl, hE⟩
        · have hne : (c == k) = false := beq_eq_false_iff_ne.2 (fun h => hkk h.symm)
          refine X_if_f (by simp (disch := first | assumption | omega) only [ev_tmp, Env.put_some, Env.put_none, Env.set_app, Nat.reduceEqDiff, ↓reduceIte, beq_f, dec_f, hne]) ?_
          simp only [X_skip, X_exit, X_ret, X_block, thenX_normal, thenX_ret, thenX_exit, inX_normal, inX_ret, inX_exit, ↓reduceIte, Nat.reduceEqDiff]
          (try refine xo_nil ?_)
          refine hK _ _ ?_
          clear hK K
          (try simp only [X_reg, thenX_normal])
          repeat (first | (refine xo (by simp (disch := first | assumption | omega | (with_unfolding_all exact id rfl) | exact Nat.le_of_ble_eq_true rfl | fail) only [Bool.not_true, Bool.not_false, vR_ok, uR_ok, ev_tmp, ev_const, ev_func, Env.put_some, Env.put_none, Env.set_app, Nat.reduceEqDiff, ↓reduceIte, rG_move, rG_assign, opt1_some, ext_all, dec_t, dec_f, beq_t, beq_f, bne_t, bne_f, wrap_i64, wrap_u64, Int.toNat_natCast, Nat.mul_one, Nat.zero_add, Nat.add_zero, List.map_toArray, List.map_cons, List.map_nil, rG_binOp, binR_leq, mi72, resM_1, binR_add, ceql_nn_32, ceql_in_32, ceql_ni_32, ceql_ii_32_72, h3] <;> rfl) ?_; first | with_reducible refine kv ?_ | with_reducible refine ks ?_ | with_reducible refine ke ?_) | (refine xo_t ?_ ?_; focus (simp (disch := first | assumption | omega | (with_unfolding_all exact id rfl) | exact Nat.le_of_ble_eq_true rfl | fail) only [Env.put_some, Env.put_none, Env.set_app, Nat.reduceEqDiff, ↓reduceIte, Bool.not_true, Bool.not_false, h3]; done)) | (refine xo_f ?_ ?_; focus (simp (disch := first | assumption | omega | (with_unfolding_all exact id rfl) | exact Nat.le_of_ble_eq_true rfl | fail) only [Env.put_some, Env.put_none, Env.set_app, Nat.reduceEqDiff, ↓reduceIte, Bool.not_true, Bool.not_false, h3]; done)) | (refine xo_u ?_ ?_; focus (simp (disch := first | assumption | omega | (with_unfolding_all exact id rfl) | exact Nat.le_of_ble_eq_true rfl | fail) only [Env.put_some, Env.put_none, Env.set_app, Nat.reduceEqDiff, ↓reduceIte, Bool.not_true, Bool.not_false, h3]; done)))
          refine xo_nil ⟨⟨k + 1, by omega, by omega, ?_, ?_, hE⟩, ?_⟩
          · (try simp (disch := first | assumption | omega | (with_unfolding_all exact id rfl) | exact Nat.le_of_ble_eq_true rfl | fail) only [Env.put_some, Env.put_none, Env.set_app, Nat.reduceEqDiff, ↓reduceIte, nat_int, Int.toNat_natCast, wrap_i64])
          · (try simp (disch := first | assumption | omega | (with_unfolding_all exact id rfl) | exact Nat.le_of_ble_eq_true rfl | fail) only [Env.put_some, Env.put_none, Env.set_app, Nat.reduceEqDiff, ↓reduceIte, nat_int, Int.toNat_natCast, wrap_i64, h0])
          · (try simp (disch := first | assumption | omega | (with_unfolding_all exact id rfl) | exact Nat.le_of_ble_eq_true rfl | fail) only [Env.put_some, Env.put_none, Env.set_app, Nat.reduceEqDiff, ↓reduceIte, nat_int, Int.toNat_natCast, wrap_i64, h3])
            omega
    · exact fun _ _ h => h.elim
theorem pick_sure (n b : Int) (hb : 0 < b) (hm : b ≤ 4611686018427387904) : Sure Tryz.prog 36 #[.int .i64 n, .int .i64 b] (.int .i64 (n % b)) := fun w => pick_calls n b hb hm w
theorem code_sure (c : Int) (h0 : 0 ≤ c) (h8 : c ≤ 8) : Sure Tryz.prog 9 #[errV c] (.int .i64 c) := fun w => code_calls c h0 h8 w
end Go.Proofs.YtpeindhocndmnaaGreat

namespace Go.Proofs.YtpeindhocndmnaaGreat
open Go Go.Bx
set_option linter.unusedSimpArgs false
set_option linter.unusedVariables false
set_option maxRecDepth 100000
set_option maxHeartbeats 4000000
attribute [local irreducible] X XO XE XF XD XW thenX inX retX kN CallsR
theorem ints_same {w : World} {a b : Option Addr} {c d : Nat} {l : List Int} (hA : InI w a l) (hB : InI w b l) (hl : l.length ≤ 1000000) : Quiet Tryz.prog 27 #[.slice a l.length c, .slice b l.length d] w (.int .i64 1) := by
  intro u hu
  have hA := Inp.ext hA hu
  have hB := Inp.ext hB hu
  clear hu
  refine en2 Tryz.func27 Tryz.results27 mixed [] ?_
  intro e0 h0 h1
  refine w_ fun d => ?_
  refine lo_ (fun W e w' => ∃ k : Nat, k ≤ l.length ∧ e 5 = .int .i64 k ∧ Ext W w') (fun e _ => l.length - nat (e 5)) ?_ ?_
  · exact ⟨0, by omega, eA rfl, ext_⟩
  rintro e w1 hf ⟨k, hk, h5, hE⟩
  have hs1 := sz_ hE
  have hA1 := Inp.ext hA hE
  have hB1 := Inp.ext hB hE
  clear hA hB
  by_cases hlt : k < l.length
  · obtain ⟨x, hx⟩ : ∃ x, l[k]? = some x := ⟨l[k], List.getElem?_eq_getElem (by omega)⟩
    rcases InI.at hA1 with rfl | ⟨b1, o1, cs1, E1, fz1, rfl, hb1, hat1⟩
    · simp at hlt
    rcases InI.at hB1 with rfl | ⟨b2, o2, cs2, E2, fz2, rfl, hb2, hat2⟩
    · simp at hlt
    have hat1 := hat1 k x hx
    have hat2 := hat2 k x hx
    clear hA1 hB1 hx
    refine w_ fun d => ?_
    exact ⟨⟨k + 1, by omega, eA rfl, ext_⟩, mA⟩
  · obtain rfl : k = l.length := by omega
    clear hA1 hB1
    refine w_ fun d => ?_
    exact ⟨rfl, ext_⟩
end Go.Proofs.YtpeindhocndmnaaGreat

namespace Go.Proofs.YtpeindhocndmnaaGreat
open Go Go.Bx
set_option linter.unusedSimpArgs false
set_option linter.unusedVariables false
set_option maxRecDepth 100000
set_option maxHeartbeats 4000000
attribute [local irreducible] X XO XE XF XD XW thenX inX retX kN CallsR
def ownN (a b : Nat) : Nat → Nat := fun k => if k = a then 1 else if k = b then 2 else 0
theorem ownN_1 {a b : Nat} : ownN a b a = 1 := if_pos rfl
theorem ownN_0 {a b k : Nat} (h1 : k ≠ a) (h2 : k ≠ b) : ownN a b k = 0 := by unfold ownN; rw [if_neg h1, if_neg h2]
theorem ownN_2 {a b k : Nat} (h : k ≠ a) : ownN a b k = 2 ↔ k = b := by
  unfold ownN; rw [if_neg h]
  by_cases e : k = b
  · rw [if_pos e]; simp [e]
  · rw [if_neg e]; simp [e]
theorem owns_N2 {a b : Nat} (h : a ≠ b) : owns (ownN a b) 2 = fun k => k = b := funext fun k => propext (by
  unfold owns
  by_cases e1 : k = a
  · subst e1
    rw [ownN_1]
    constructor
    · intro h; cases h
    · intro e; exact absurd e h
  · exact ownN_2 e1)
theorem plain_calls (w : World) : CallsR Tryz.prog 90 #[] w fun r w' => r = aI plain ∧ Ext w w' := by
  refine en0 Tryz.func90 Tryz.results90 mixed [] ?_
  intro e0
  refine w_ fun d => ?_
  exact ⟨rfl, ext_⟩
theorem rsNew_calls (most : Int) (h0' : 0 ≤ most) (h1' : most ≤ 20000) (w : World) :
    CallsR Tryz.prog 54 #[.int .i64 most] w fun r w' => ∃ own p, r = .pointer (some ⟨p, 0, none⟩) ∧ RsI own w' p (Md.new most) ∧ (∀ k, own k ≠ 0 → w.heap.size ≤ k) ∧ Ext w w' := by
  refine en1 Tryz.func54 Tryz.results54 mixed [] ?_
  intro e0 h0
  refine w_ fun d => ?_
  refine (plain_calls _).mono ?_
  rintro _ w1 ⟨rfl, hE1⟩
  have hs1 := hE1.size
  rw [alloc_size] at hs1
  obtain ⟨oc, hc⟩ := ordC (ord := plain) rfl
  have e : aI plain = .agg #[.int .i64 0, .int .i64 1, .int .i64 2, .int .i64 3, .int .i64 4, .int .i64 5, .int .i64 6, .int .i64 7] := rfl
  rw [e]
  have hoc : oc = #[.int .i64 0, .int .i64 1, .int .i64 2, .int .i64 3, .int .i64 4, .int .i64 5, .int .i64 6, .int .i64 7] := by have := hc.agg; rw [e] at this; cases this; rfl
  refine w_ fun d => ?_
  have hRA := (raNew_box (most := most) (w := w)).ext hE1
  have hEw : Ext w w1 := Ext.trans (by exact ext_) hE1
  have hpl : w1.heap.size ≠ w.heap.size := by omega
  have hown := (owns_N2 hpl).symm
  rw [hown] at hRA
  refine ⟨ownN w1.heap.size w.heap.size, w1.heap.size, rfl, ⟨w.heap.size, none, 0, _, oc, hA rfl, ⟨rfl, rfl, rfl, ?_⟩, hc, ownN_1, hRA.ext ext_, Sl.nil _ _ _, (fun g h => by cases h), fun k hk => ?_⟩, fun k hk => ?_, ext_⟩
  · rw [hoc]; rfl
  · by_cases e1 : k = w1.heap.size
    · rw [e1, alloc_size]; omega
    · by_cases e2 : k = w.heap.size
      · rw [e2, alloc_size]; omega
      · exact absurd (ownN_0 e1 e2) hk
  · by_cases e1 : k = w1.heap.size
    · omega
    · by_cases e2 : k = w.heap.size
      · omega
      · exact absurd (ownN_0 e1 e2) hk
theorem stNew_none (most : Int) (h : ¬ (0 ≤ most ∧ most ≤ 20000)) : Sure Tryz.prog 32 #[.int .i64 most] (.pointer none) := by
  intro w
  have c1 := arNew_none most h
  clear h
  refine en1 Tryz.func32 Tryz.results32 mixed [(8, [2])] ?_
  intro e0 h0
  refine w_ fun d => ?_
  refine qq (c1.quiet (w := w)) fun w1 hE1 hs1 => ?_
  refine w_ fun d => ?_
  exact ⟨rfl, ext_⟩
structure NewI (w0 w : World) (p pa : Nat) (most : Int) (k : Nat) (own : Nat → Nat) (sc : Array Value) (pu : Nat → Nat) : Prop where
  at_ : w.heap[p]? = some (.cells sc 116)
  size : sc.size = 20
  c0 : sc[0]? = some (.int .i64 most)
  c1 : sc[1]? = some (.pointer (some ⟨pa, 0, none⟩))
  c2 : sc[2]? = some (.slice none 0 0)
  c3 : sc[3]? = some (.slice none 0 0)
  cu : ∀ v : Nat, v < k → sc[4 + v]? = some (.pointer (some ⟨pu v, 0, none⟩))
  co : Value.agg (sc.extract 12 20) = aI plain
  op : own p = 1
  ar : ArI (owns own 2) w pa ⟨most, [], []⟩
  un : ∀ v, v < k → UqM (owns own (10 + v)) w (pu v) (fun _ => none) 0
  no : ∀ v, k ≤ v → ∀ j, own j ≠ 10 + v
  lt : ∀ j, own j ≠ 0 → w0.heap.size ≤ j ∧ j < w.heap.size
  ext : Ext w0 w
theorem NewI.keep {w0 w w' : World} {p pa : Nat} {most : Int} {k : Nat} {own : Nat → Nat} {sc : Array Value} {pu : Nat → Nat} (h : NewI w0 w p pa most k own sc pu) (hE : Ext w w') : NewI w0 w' p pa most k own sc pu :=
  ⟨hE.at h.at_, h.size, h.c0, h.c1, h.c2, h.c3, h.cu, h.co, h.op, h.ar.ext hE, fun v hv => (h.un v hv).ext hE, h.no, fun j hj => ⟨(h.lt j hj).1, Nat.lt_of_lt_of_le (h.lt j hj).2 hE.size⟩, h.ext.trans hE⟩
theorem NewI.next {w0 u u2 u3 : World} {p pa : Nat} {most : Int} {k : Nat} {own : Nat → Nat} {sc : Array Value} {pu : Nat → Nat} (h : NewI w0 u p pa most k own sc pu) (hk : k < 8) {q : Nat} (hU : UqM (fun j => u.heap.size ≤ j ∧ j < u2.heap.size) u2 q (fun _ => none) 0) (hE : Ext u u2) (hE3 : Ext u2 u3) :
    NewI w0 (upd u3 p (.cells (sc.setIfInBounds (4 + k) (.pointer (some ⟨q, 0, none⟩))) 116)) p pa most (k + 1) (ownUp own u u2 (10 + k)) (sc.setIfInBounds (4 + k) (.pointer (some ⟨q, 0, none⟩))) (fun v => if v = k then q else pu v) := by
  have hlt : ∀ j, own j ≠ 0 → j < u.heap.size := fun j hj => (h.lt j hj).2
  have hp := (hE.trans hE3).at h.at_
  have hpl := lt_of_heap hp
  have hs := h.size
  have hsz := hE.size
  have hsz3 := hE3.size
  have hop : ownUp own u u2 (10 + k) p = 1 := by rw [ownUp_old (hlt p (by rw [h.op]; decide))]; exact h.op
  have hne : ∀ j, ownUp own u u2 (10 + k) j ≠ 1 → (upd u3 p (.cells (sc.setIfInBounds (4 + k) (.pointer (some ⟨q, 0, none⟩))) 116)).heap[j]? = u3.heap[j]? := fun j hj => upd_other fun e => hj (by rw [← e]; exact hop)
  refine ⟨upd_same hpl, by rw [Array.size_setIfInBounds]; exact hs, by rw [Array.getElem?_setIfInBounds_ne (by omega)]; exact h.c0, by rw [Array.getElem?_setIfInBounds_ne (by omega)]; exact h.c1, by rw [Array.getElem?_setIfInBounds_ne (by omega)]; exact h.c2, by rw [Array.getElem?_setIfInBounds_ne (by omega)]; exact h.c3, fun v hv => ?_, ?_, hop, ?_, fun v hv => ?_, fun v hv j hj => ?_, fun j hj => ?_, ?_⟩
  · by_cases e : v = k
    · subst e; rw [Array.getElem?_setIfInBounds_self_of_lt (by omega)]; simp
    · rw [Array.getElem?_setIfInBounds_ne (by omega), h.cu v (by omega)]; simp [e]
  · rw [← h.co]
    congr 1
    apply Array.ext_getElem?
    intro j
    rw [Array.getElem?_extract, Array.getElem?_extract, Array.size_setIfInBounds, Array.getElem?_setIfInBounds_ne (by omega)]
  · rw [owns_up_other hlt (by decide) (by omega)]
    exact (h.ar.ext (hE.trans hE3)).keep (fun j hj => upd_other fun e => by unfold owns at hj; rw [← e, h.op] at hj; cases hj) (by rw [upd_size]; exact Nat.le_refl _)
  · by_cases e : v = k
    · subst e
      rw [owns_up_self]
      have h1 := (hU.ext hE3).wider (G := Grow (owns own (10 + v)) u u2) (fun j hj => .inr hj) (fun j hj => by
        rcases hj with hj | hj
        · exact absurd hj (h.no v (Nat.le_refl _) j)
        · omega)
      show UqM _ _ (if v = v then q else pu v) _ _
      rw [if_pos rfl]
      exact h1.keep (fun j hj => upd_other fun e => by
        rw [← e] at hj
        rcases hj with hj | hj
        · exact absurd hj (h.no v (Nat.le_refl _) p)
        · have := hlt p (by rw [h.op]; decide); omega) (by rw [upd_size]; exact Nat.le_refl _)
    · rw [owns_up_other hlt (by omega) (by omega)]
      show UqM _ _ (if v = k then q else pu v) _ _
      rw [if_neg e]
      exact ((h.un v (by omega)).ext (hE.trans hE3)).keep (fun j hj => upd_other fun e => by unfold owns at hj; rw [← e, h.op] at hj; omega) (by rw [upd_size]; exact Nat.le_refl _)
  · unfold ownUp at hj
    split at hj
    · omega
    · exact h.no v (by omega) j hj
  · rw [upd_size]
    have h0 := h.ext.size
    unfold ownUp at hj
    split at hj
    · rename_i hr; omega
    · have := h.lt j hj; omega
  · exact (h.ext.trans (hE.trans hE3)).upd (h.lt p (by rw [h.op]; decide)).1 _
theorem stNew_calls (most : Int) (h0' : 0 ≤ most) (h1' : most ≤ 20000) (w : World) :
    CallsR Tryz.prog 32 #[.int .i64 most] w fun r w' => ∃ own p, r = .pointer (some ⟨p, 0, none⟩) ∧ StI own w' p (Md.new most) [] ∧ (∀ k, own k ≠ 0 → w.heap.size ≤ k) ∧ Ext w w' := by
  have c1 := arNew_calls most h0' h1' w
  have hpl : w.heap.size + 1 ≠ w.heap.size := by omega
  have hown := (owns_N2 hpl).symm
  refine en1 Tryz.func32 Tryz.results32 mixed [(8, [2])] ?_
  intro e0 h0
  refine w_ fun d => ?_
  refine c1.mono ?_
  rintro _ w1 ⟨rfl, hRA, hs1, hE1⟩
  rw [hown] at hRA
  refine w_ fun d => ?_
  refine lo_ (fun _ e w' => ∃ (k : Nat) (own : Nat → Nat) (sc : Array Value) (pu : Nat → Nat), k ≤ 8 ∧ e 15 = .int .i64 k ∧ NewI w w' (w.heap.size + 1) w.heap.size most k own sc pu) (fun e _ => 8 - nat (e 15)) ?_ ?_
  · refine ⟨0, ownN (w.heap.size + 1) w.heap.size, _, fun _ => 0, by omega, eA rfl, hA rfl, rfl, rfl, rfl, rfl, rfl, fun v hv => by omega, rfl, ownN_1, hRA.ext ext_, fun v hv => by omega, fun v _ j hj => ?_, fun j hj => ?_, ext_⟩
    · by_cases e1 : j = w.heap.size + 1
      · rw [e1, ownN_1] at hj; omega
      · by_cases e2 : j = w.heap.size
        · rw [(ownN_2 e1).2 e2] at hj; omega
        · rw [ownN_0 e1 e2] at hj; omega
    · by_cases e1 : j = w.heap.size + 1
      · rw [alloc_size]; omega
      · by_cases e2 : j = w.heap.size
        · rw [alloc_size]; omega
        · exact absurd (ownN_0 e1 e2) hj
  rintro e u hf ⟨k, own, sc, pu, hk, h15, I⟩
  have hp := I.at_
  have hsz := I.size
  have hpl2 := lt_of_heap hp
  by_cases hlt : k < 8
  · refine w_ fun d => ?_
    refine s_draw (XD_ext ?_)
    refine de_ ?_
    refine xe2w fun v1 hF1 => ?_
    refine krA ?_
    refine ke ?_
    refine (uqNew_calls v1).mono ?_
    rintro _ v2 ⟨q, rfl, hU, hF2⟩
    have hF02 := hF1.trans hF2
    refine de_ ?_
    refine xe2w fun v3 hF3 => ?_
    have hp3 := (hF02.trans hF3).at hp
    have hpl3 := lt_of_heap hp3
    refine krA ?_
    refine ks ?_
    refine xn_ fun v4 hF4 hs4 => ?_
    have I2 := ((I.keep hF1).next hlt hU hF2 hF3).keep hF4
    clear hU hF2 hF02 hF3 hF4 hp3 hpl3 hs4 hF1 hp hpl2 I
    refine w_ fun d => ?_
    exact ⟨⟨k + 1, _, _, _, by omega, eA rfl, I2⟩, mA⟩
  · obtain rfl : k = 8 := by omega
    refine w_ fun d => ?_
    obtain ⟨oc, hc⟩ := ordC (ord := plain) rfl
    have hco : sc.extract 12 20 = oc := by have := I.co.trans hc.agg; cases this; rfl
    refine ⟨own, _, rfl, ⟨[], fun _ _ => none, fun _ => 0, ⟨w.heap.size, none, 0, none, 0, pu, sc, oc, ⟨I.at_, ⟨hsz, I.c0, I.c1, I.c2, I.c3, I.cu, hco⟩, hc, I.op, I.ar, Sl.nil _ _ _, (fun g h => by cases h), SlC.nil _ _, (fun g h => by cases h), I.un, fun k hk => (I.lt k hk).2⟩⟩, ⟨rfl, fun k hk => by simp [Md.new] at hk, fun v hv k n => ?_, fun v hv => rfl⟩⟩, fun k hk => (I.lt k hk).1, I.ext⟩
    constructor
    · intro h; cases h
    · rintro ⟨h, _⟩
      unfold Md.has Md.new Ar.has at h; simp at h
end Go.Proofs.YtpeindhocndmnaaGreat

namespace Go.Proofs.YtpeindhocndmnaaGreat
open Go Go.Bx
set_option linter.unusedSimpArgs false
set_option linter.unusedVariables false
set_option maxRecDepth 100000
set_option maxHeartbeats 4000000
attribute [local irreducible] X XO XE XF XD XW thenX inX retX kN CallsR
theorem SlC.appI {w : World} {a b0 : Option Addr} {cap c : Nat} {l m : List Int} (h : SlC w 3 a cap (ints l)) (hI : InI w b0 m) (hm : l.length + m.length ≤ 1000000000) :
    ∃ a' cap' w', apR Tryz.prog 23 (.slice a l.length cap) (.slice b0 m.length c) w = .ok (.slice a' (l ++ m).length cap') w' ∧ SlC w' 3 a' cap' (ints (l ++ m)) ∧ Chg (fun k => blk a = some k) w w' ∧ (∀ g, blk a' = some g → blk a = some g ∨ (w.heap.size ≤ g ∧ g < w'.heap.size)) := by
  obtain ⟨a2, c2, w2, hr, hS2, hC2, hB2⟩ := Sl.append (news := one1 (ints m)) (c := c) h T23 T3 rfl (by decide) hI one1_len (by rw [one1_flat]; exact List.all_eq_true.2 fun x hx => by obtain ⟨y, _, rfl⟩ := List.mem_map.1 hx; rfl) (by simp; omega) (by decide)
  rw [← List.map_append, ← List.map_append] at hr
  simp only [List.length_map] at hr
  exact ⟨a2, c2, w2, hr, by unfold SlC; rw [ints, List.map_append, one1, List.map_append]; exact hS2, hC2, hB2⟩
def pickN (s : Md) (n : Int) (raw : Bool) : Int := if raw then n else ((0 : Int) :: 1 :: s.all).getD (n % ((s.all.length : Int) + 2)).toNat 0
section
variable {own own1 own2 ownI ownM : Nat → Nat} {W w w' w1 w2 : World} {p ps pm : Nat} {s s' sM : Md} {n v x y lo hi : Int}
theorem pickN_there (Ws : s.WF) : pickN s n false = 0 ∨ pickN s n false = 1 ∨ s.has (pickN s n false) = true := by
  unfold pickN
  simp only [Bool.false_eq_true, ↓reduceIte]
  have h1 : 0 ≤ n % ((s.all.length : Int) + 2) := Int.emod_nonneg _ (by omega)
  have h2 : n % ((s.all.length : Int) + 2) < (s.all.length : Int) + 2 := Int.emod_lt_of_pos _ (by omega)
  obtain ⟨k, hk0⟩ : ∃ k, (n % ((s.all.length : Int) + 2)).toNat = k := ⟨_, rfl⟩
  rw [hk0]
  have hk : k < ((0 : Int) :: 1 :: s.all).length := by simp; omega
  have := List.getElem_mem hk
  rw [List.getD, List.getElem?_eq_getElem hk, Option.getD_some]
  rw [List.mem_cons, List.mem_cons, Ws.mem_all] at this
  exact this
theorem pickN_le (Ws : s.WF) (hn : n ≤ 9223372036854775807) {raw : Bool} : pickN s n raw ≤ 9223372036854775807 := by
  cases raw
  · have h1 := wf_N Ws
    rcases pickN_there Ws (n := n) with e | e | e
    · omega
    · omega
    · have := Ws.lt e; omega
  · exact hn
theorem lnode_calls (h : RsI own w p s) (Ws : s.WF) (n : Int) (raw : Bool) : Quiet Tryz.prog 18 #[.pointer (some ⟨p, 0, none⟩), .int .i64 n, .bool raw] w (.int .i64 (pickN s n raw)) := by
  intro u hu
  have h := h.ext hu
  clear hu
  cases raw
  rotate_left
  · show CallsR _ _ _ _ fun r u' => r = .int .i64 n ∧ Ext u u'
    clear h Ws
    refine en3 Tryz.func18 Tryz.results18 mixed [] ?_
    intro e0 h0 h1 h2
    refine w_ fun d => ?_
    exact ⟨rfl, ext_⟩
  have hN := wf_N Ws
  have hal : s.all.length ≤ s.N.length := allTo_len (s := s) (k := s.N.length)
  have hpk : pickN s n false = ((0 : Int) :: 1 :: s.all).getD (n % ((s.all.length : Int) + 2)).toNat 0 := rfl
  have hp0 : 0 ≤ n % ((s.all.length : Int) + 2) := Int.emod_nonneg _ (by omega)
  have hp1 : n % ((s.all.length : Int) + 2) < (s.all.length : Int) + 2 := Int.emod_lt_of_pos _ (by omega)
  have pk := pick_sure n ((s.all.length : Int) + 2) (by omega) (by omega)
  rw [hpk]
  generalize n % ((s.all.length : Int) + 2) = q at *
  clear hpk
  refine en3 Tryz.func18 Tryz.results18 mixed [] ?_
  intro e0 h0 h1 h2
  refine w_ fun d => ?_
  refine (rsAll_calls (h.ext ext_) Ws).mono ?_
  rintro _ w2 ⟨aA, cA, rfl, hSA, hnA, hEA⟩
  have hE2 : Ext u w2 := Ext.trans (by exact ext_) hEA
  have hb0 : w2.heap[u.heap.size]? = some (.cells #[.int .i64 0, .int .i64 1] 3) := hEA.at (hA rfl)
  have hS0 : SlC w2 3 (some ⟨u.heap.size, 0, none⟩) 2 (ints [0, 1]) := SlC.made hb0 (by simp)
  obtain ⟨a3, c3, w3, hr, hS3, hC3, hB3⟩ := SlC.appI hS0 (c := cA) hSA.inp (by simp; omega)
  have hE3 : Ext u w3 := hC3.toExt hE2 fun k hk hb => by have := blk_g hb; omega
  have hl3 : (([0, 1] : List Int) ++ s.all).length = s.all.length + 2 := by simp
  rw [hl3, show ([0, 1] : List Int).length = 2 from rfl] at hr
  obtain ⟨z, hz⟩ : ∃ z, ((0 : Int) :: 1 :: s.all)[q.toNat]? = some z := ⟨_, List.getElem?_eq_getElem (by simp; omega)⟩
  rw [List.getD, hz, Option.getD_some]
  obtain ⟨g, cur, rfl, hg, hc, hlt, hat⟩ := hS3.at (i := q.toNat) (v := .int .i64 z) (by rw [List.getElem?_map, show ([0, 1] : List Int) ++ s.all = 0 :: 1 :: s.all from rfl, hz]; rfl)
  rw [List.length_map, hl3] at hc
  have hq3 : q < ((s.all.length + 2 : Nat) : Int) := by omega
  have hgl := lt_of_heap hg
  clear hS3 hS0 hB3 hC3 hSA hEA hb0 hz hlt
  refine w_ fun d => ?_
  refine qq (pk.quiet (w := w3)) fun w4 hE4 hs4 => ?_
  refine w_ fun d => ?_
  exact ⟨rfl, ext_⟩
def PrI (W w : World) (ps pm : Nat) (s sM : Md) : Prop :=
  ∃ ownI ownM, StI ownI w ps s [] ∧ RsI ownM w pm sM ∧ (∀ k, ownI k ≠ 0 → ownM k = 0) ∧ (∀ k, ownI k ≠ 0 → W.heap.size ≤ k) ∧ (∀ k, ownM k ≠ 0 → W.heap.size ≤ k) ∧ Ext W w
theorem PrI.ext (h : PrI W w ps pm s sM) (hE : Ext w w') : PrI W w' ps pm s sM := by
  obtain ⟨a, b, h1, h2, h3, h4, h5, h6⟩ := h
  exact ⟨a, b, h1.ext hE, h2.ext hE, h3, h4, h5, h6.trans hE⟩
theorem PrI.world (h : PrI W w ps pm s sM) : Ext W w := by obtain ⟨_, _, _, _, _, _, _, h⟩ := h; exact h
theorem RsI.keep (h : RsI own w p s) (hne : ∀ k, own k ≠ 0 → w'.heap[k]? = w.heap[k]?) (hs : w.heap.size ≤ w'.heap.size) : RsI own w' p s := by
  obtain ⟨pa, na, nc, sc, oc, h⟩ := h
  exact ⟨pa, na, nc, sc, oc, h.keep hne hs⟩
theorem StI.keep (h : StI own w p s []) (hne : ∀ k, own k ≠ 0 → w'.heap[k]? = w.heap[k]?) (hs : w.heap.size ≤ w'.heap.size) : StI own w' p s [] := by
  obtain ⟨R, M, c, h, A⟩ := h
  exact ⟨R, M, c, h.keep hne hs, A⟩
theorem PrI.turnI {f : FuncId} {args : Array Value} {R : Value → Prop} (h : PrI W w ps pm s sM) (hc : ∀ own, StI own w ps s [] → CallsR Tryz.prog f args w fun r w' => R r ∧ TrI own w ps s' [] w') :
    CallsR Tryz.prog f args w fun r w' => R r ∧ PrI W w' ps pm s' sM := by
  obtain ⟨a, b, h1, h2, h3, h4, h5, h6⟩ := h
  refine (hc a h1).mono ?_
  rintro r w' ⟨hr, a', g1, ho, hC⟩
  have hs := hC.size
  have hsW := h6.size
  refine ⟨hr, a', b, g1, h2.keep (fun k hk => hC.heap k (h2.lt k hk) fun hf => hk (h3 k hf)) hs, fun k hk => ?_, fun k hk => ?_, h5, hC.toExt h6 fun k hk hf => by have := h4 k hf; omega⟩
  · by_cases hl : k < w.heap.size
    · exact h3 k (by rw [← ho k hl]; exact hk)
    · cases hb : b k with
      | zero => rfl
      | succ m => exact absurd (h2.lt k (by omega)) hl
  · by_cases hl : k < w.heap.size
    · exact h4 k (by rw [← ho k hl]; exact hk)
    · omega
theorem PrI.turnM {f : FuncId} {args : Array Value} {R : Value → Prop} (h : PrI W w ps pm s sM) (hc : ∀ own, RsI own w pm sM → CallsR Tryz.prog f args w fun r w' => R r ∧ TrS own w pm s' w') :
    CallsR Tryz.prog f args w fun r w' => R r ∧ PrI W w' ps pm s s' := by
  obtain ⟨a, b, h1, h2, h3, h4, h5, h6⟩ := h
  refine (hc b h2).mono ?_
  rintro r w' ⟨hr, b', g1, hSw⟩
  have hs := hSw.ch.size
  have hsW := h6.size
  have h3' : ∀ k, b k ≠ 0 → a k = 0 := fun k hk => by
    cases ha : a k with
    | zero => rfl
    | succ m => exact absurd (h3 k (by omega)) hk
  refine ⟨hr, a, b', h1.keep (fun k hk => hSw.ch.heap k (h1.lt k hk) fun hf => hk (h3' k hf)) hs, g1, fun k hk => ?_, h4, fun k hk => ?_, hSw.ch.toExt h6 fun k hk hf => by have := h5 k hf; omega⟩
  · have hl := h1.lt k hk
    rw [hSw.ho k hl]; exact h3 k hk
  · by_cases hl : k < w.heap.size
    · exact h5 k (by rw [← hSw.ho k hl]; exact hk)
    · omega
theorem PrI.i (h : PrI W w ps pm s sM) : ∃ own, StI own w ps s [] := by obtain ⟨a, b, h1, h2, _⟩ := h; exact ⟨a, h1⟩
theorem PrI.m (h : PrI W w ps pm s sM) : ∃ own, RsI own w pm sM := by obtain ⟨a, b, h1, h2, _⟩ := h; exact ⟨b, h2⟩
end
end Go.Proofs.YtpeindhocndmnaaGreat

namespace Go.Proofs.YtpeindhocndmnaaGreat
open Go Go.Bx
set_option linter.unusedSimpArgs false
set_option linter.unusedVariables false
set_option maxRecDepth 100000
set_option maxHeartbeats 4000000
attribute [local irreducible] X XO XE XF XD XW thenX inX retX kN CallsR
section
variable {W w w' w1 w2 : World} {p ps pm : Nat} {s s' sM : Md} {n v x y lo hi : Int}
theorem free_rng : 0 ≤ (s.free n).1 ∧ (s.free n).1 ≤ 8 := by unfold Md.free; split <;> simp
theorem swap_rng : 0 ≤ (s.swap n).1 ∧ (s.swap n).1 ≤ 8 := by unfold Md.swap; split; simp; split <;> simp
theorem mk_rng (Ws : s.WF) : 0 ≤ (s.mk' [] v lo hi).1.2 ∧ (s.mk' [] v lo hi).1.2 ≤ 8 := by
  have h := Ws.mks [] v lo hi
  generalize s.mk' [] v lo hi = r at h
  cases h <;> simp
abbrev Dd07 := Int × Int × Int × Int × Bool
def encD (d : Dd07) : List Value := [.int .i64 d.1, .int .i64 d.2.1, .int .i64 d.2.2.1, .int .i64 d.2.2.2.1, .bool d.2.2.2.2]
def okI (n : Int) : Prop := -9223372036854775808 ≤ n ∧ n ≤ 9223372036854775807
theorem do_calls {q a b c : Int} {raw : Bool} (h : PrI W w ps pm s s) (G : s.Good []) (ha : okI a) (hb : okI b) (hc : okI c) :
    CallsR Tryz.prog 17 #[.pointer (some ⟨ps, 0, none⟩), .pointer (some ⟨pm, 0, none⟩), .agg #[.int .i64 q, .int .i64 a, .int .i64 b, .int .i64 c, .bool raw]] w fun r w' => ∃ s', r = .int .i64 1 ∧ PrI W w' ps pm s' s' ∧ s'.Good [] := by
  have Ws := G.wf
  obtain ⟨ownI, hI⟩ := h.i
  obtain ⟨ownM, hM⟩ := h.m
  have la := lnode_calls hM Ws a raw
  have lb := lnode_calls hM Ws b raw
  have lc := lnode_calls hM Ws c raw
  have pa := pickN_le (raw := raw) Ws ha.2
  have pb := pickN_le (raw := raw) Ws hb.2
  have pc := pickN_le (raw := raw) Ws hc.2
  have pq := pick_sure q 8 (by decide) (by decide)
  have p7 := pick_sure a 7 (by decide) (by decide)
  have p8 := pick_sure a 8 (by decide) (by decide)
  have q0 : 0 ≤ q % 8 ∧ q % 8 < 8 := ⟨Int.emod_nonneg _ (by decide), Int.emod_lt_of_pos _ (by decide)⟩
  generalize q % 8 = wq at pq q0
  have mk_i : ∀ f (args : Array Value) (R : Value → Prop) (sn : Md), (∀ u own, Ext w u → StI own u ps s [] → CallsR Tryz.prog f args u fun r w' => R r ∧ TrI own u ps sn [] w') → ∀ u, Ext w u → CallsR Tryz.prog f args u fun r w' => R r ∧ PrI W w' ps pm sn s :=
    fun f args R sn hh u hu => (h.ext hu).turnI fun own ho => hh u own hu ho
  have mk_m : ∀ f (args : Array Value) (R : Value → Prop) (sn : Md), (∀ u own, RsI own u pm s → CallsR Tryz.prog f args u fun r w' => R r ∧ TrS own u pm sn w') → ∀ u s1, PrI W u ps pm s1 s → CallsR Tryz.prog f args u fun r w' => R r ∧ PrI W w' ps pm s1 sn :=
    fun f args R sn hh u s1 hu => hu.turnM fun own ho => hh u own ho
  have cF := mk_i _ _ _ _ fun u own hu ho => stFree_calls ho G pa
  have cFm := mk_m _ _ _ _ fun u own ho => rsFree_calls ho Ws pa
  have cS := fun l => mk_i _ _ _ _ fun u own hu ho => stSwap_calls ho G l
  have cSm := fun l => mk_m _ _ _ _ fun u own ho => rsSwap_calls ho G l
  have cM := fun v => mk_i _ _ _ _ fun u own hu ho => stMk_calls (v := v) ho G pb pc
  have cMm := fun v => mk_m _ _ _ _ fun u own ho => rsMkP_calls (v := v) ho Ws pb pc
  have cN := fun u (hu : Ext w u) (hn : a ≤ 9223372036854775807) => stNode_calls (hI.ext hu) Ws a hn
  have cNm := fun u (hu : Ext w u) (hn : a ≤ 9223372036854775807) => rsNode_calls (hM.ext hu) Ws a hn
  have gF := (G.free (pickN s a raw)).1
  have gS := fun l => (G.swap l).1.good
  have gM := fun v => (G.mks v (pickN s b raw) (pickN s c raw)).1
  have rF := code_sure _ (free_rng (s := s) (n := pickN s a raw)).1 (free_rng (s := s) (n := pickN s a raw)).2
  have rS := fun l => code_sure _ (swap_rng (s := s) (n := l)).1 (swap_rng (s := s) (n := l)).2
  have rM := fun v => code_sure _ (mk_rng (v := v) (lo := pickN s b raw) (hi := pickN s c raw) Ws).1 (mk_rng (v := v) (lo := pickN s b raw) (hi := pickN s c raw) Ws).2
  clear hI hM mk_i mk_m
  have ha2 := ha.2
  have G0 := G
  clear ha hb hc G Ws
  generalize pickN s a raw = pA at *
  generalize pickN s b raw = pB at *
  generalize pickN s c raw = pC at *
  refine en3 Tryz.func17 Tryz.results17 mixed [] ?_
  intro e0 h0 h1 h2
  refine w_ fun d => ?_
  refine qq lb fun w1 hE1 hs1 => ?_
  refine w_ fun d => ?_
  refine qq lc fun w2 hE2 hs2 => ?_
  refine w_ fun d => ?_
  refine qq (pq.quiet (w := w2)) fun w3 hE3 hs3 => ?_
  have hE03 : Ext w w3 := ext_
  have hbx : w3.heap[w.heap.size]? = some (.cells #[.int .i64 q, .int .i64 a, .int .i64 b, .int .i64 c, .bool raw] 44) := hE3.at (hE2.at (hE1.at (hA rfl)))
  have hbl := lt_of_heap hbx
  clear hE1 hE2 hE3 hs1 hs2 hs3 lb lc pq
  clear w1 w2
  by_cases e4 : wq = 4
  · subst e4
    clear cS cSm cM cMm cN cNm gS gM rS rM p7 p8
    obtain ⟨c0, hc0⟩ : ∃ c0, (s.free pA).1 = c0 := ⟨_, rfl⟩
    obtain ⟨s1, hs1⟩ : ∃ s1, (s.free pA).2 = s1 := ⟨_, rfl⟩
    rw [hc0] at rF
    rw [hs1] at gF
    simp only [hc0, hs1] at cF cFm
    refine w_ fun d => ?_
    refine qq la fun w4 hE4 hs4 => ?_
    have hE04 := hE03.trans hE4
    refine w_ fun d => ?_
    refine (cF _ hE04).mono ?_
    rintro _ w5 ⟨rfl, hP5⟩
    refine w_ fun d => ?_
    refine qq (rF.quiet (w := w5)) fun w6 hE6 hs6 => ?_
    refine w_ fun d => ?_
    refine (cFm _ _ (hP5.ext hE6)).mono ?_
    rintro _ w7 ⟨rfl, hP7⟩
    refine w_ fun d => ?_
    exact ⟨s1, rfl, hP7, gF⟩
  have n4 : (wq == 4) = false := by simpa using e4
  by_cases e5 : wq = 5
  · subst e5
    clear cF cFm cM cMm cN cNm gF gM rF rM p8 la
    generalize a % 7 = l7 at p7
    have gS := gS l7
    have rS := rS l7
    have cS := cS l7
    have cSm := cSm l7
    obtain ⟨c0, hc0⟩ : ∃ c0, (s.swap l7).1 = c0 := ⟨_, rfl⟩
    obtain ⟨s1, hs1⟩ : ∃ s1, (s.swap l7).2 = s1 := ⟨_, rfl⟩
    rw [hc0] at rS
    rw [hs1] at gS
    simp only [hc0, hs1] at cS cSm
    refine w_ fun d => ?_
    refine qq (p7.quiet (w := w3)) fun w4 hE4 hs4 => ?_
    have hE04 := hE03.trans hE4
    refine w_ fun d => ?_
    refine (cS _ hE04).mono ?_
    rintro _ w5 ⟨rfl, hP5⟩
    refine w_ fun d => ?_
    refine qq (rS.quiet (w := w5)) fun w6 hE6 hs6 => ?_
    refine w_ fun d => ?_
    refine (cSm _ _ (hP5.ext hE6)).mono ?_
    rintro _ w7 ⟨rfl, hP7⟩
    refine w_ fun d => ?_
    exact ⟨s1, rfl, hP7, gS⟩
  have n5 : (wq == 5) = false := by simpa using e5
  by_cases e6 : wq = 6
  · subst e6
    clear cF cFm cM cMm cS cSm gF gM rF rM p8 la gS rS p7
    have n1 := cN _ hE03 ha2
    have n2 := cNm _ hE03 ha2
    clear cN cNm
    obtain ⟨z, hz⟩ : ∃ z, s.node a = z := ⟨_, rfl⟩
    rw [hz] at n1 n2
    obtain ⟨⟨x, y, z⟩, bb⟩ := z
    simp only [ndV] at n1 n2
    clear hz
    refine w_ fun d => ?_
    refine qq n1 fun w4 hE4 hs4 => ?_
    refine w_ fun d => ?_
    refine qq n2 fun w5 hE5 hs5 => ?_
    refine w_ fun d => ?_
    exact ⟨s, rfl, (h.ext hE03).ext ext_, G0⟩
  have n6 : (wq == 6) = false := by simpa using e6
  by_cases e7 : wq = 7
  · subst e7
    clear cF cFm cM cMm cN cNm gF gM rF rM p8 la p7
    have gS := gS a
    have rS := rS a
    have cS := cS a
    have cSm := cSm a
    obtain ⟨c0, hc0⟩ : ∃ c0, (s.swap a).1 = c0 := ⟨_, rfl⟩
    obtain ⟨s1, hs1⟩ : ∃ s1, (s.swap a).2 = s1 := ⟨_, rfl⟩
    rw [hc0] at rS
    rw [hs1] at gS
    simp only [hc0, hs1] at cS cSm
    refine w_ fun d => ?_
    refine (cS _ hE03).mono ?_
    rintro _ w5 ⟨rfl, hP5⟩
    refine w_ fun d => ?_
    refine qq (rS.quiet (w := w5)) fun w6 hE6 hs6 => ?_
    refine w_ fun d => ?_
    refine (cSm _ _ (hP5.ext hE6)).mono ?_
    rintro _ w7 ⟨rfl, hP7⟩
    refine w_ fun d => ?_
    exact ⟨s1, rfl, hP7, gS⟩
  have n7 : (wq == 7) = false := by simpa using e7
  clear cF cFm cS cSm cN cNm gF gS rF rS p7 la
  have fin : ∀ v : Int, ∃ c0 e0 s1, (∀ u, Ext w u → CallsR Tryz.prog 33 #[.pointer (some ⟨ps, 0, none⟩), .int .i64 v, .int .i64 pB, .int .i64 pC] u fun r w' => r = .tuple #[.int .i64 c0, errV e0] ∧ PrI W w' ps pm s1 s) ∧
      (∀ u s1', PrI W u ps pm s1' s → CallsR Tryz.prog 57 #[.pointer (some ⟨pm, 0, none⟩), .int .i64 v, .int .i64 pB, .int .i64 pC] u fun r w' => r = .tuple #[.int .i64 c0, .int .i64 e0] ∧ PrI W w' ps pm s1' s1) ∧ Sure Tryz.prog 9 #[errV e0] (.int .i64 e0) ∧ s1.Good [] :=
    fun v => ⟨_, _, _, cM v, cMm v, rM v, gM v⟩
  clear cM cMm rM gM
  cases raw
  · obtain ⟨c0, e0, s1, cM, cMm, rM, gM⟩ := fin (a % 8)
    generalize a % 8 = l8 at p8 cM cMm
    clear fin
    refine w_ fun d => ?_
    refine qq (p8.quiet (w := w3)) fun w4 hE4 hs4 => ?_
    have hE04 := hE03.trans hE4
    refine w_ fun d => ?_
    refine (cM _ hE04).mono ?_
    rintro _ w5 ⟨rfl, hP5⟩
    refine w_ fun d => ?_
    refine (cMm _ _ hP5).mono ?_
    rintro _ w6 ⟨rfl, hP6⟩
    refine w_ fun d => ?_
    refine qq (rM.quiet (w := w6)) fun w7 hE7 hs7 => ?_
    refine w_ fun d => ?_
    exact ⟨s1, rfl, hP6.ext ext_, gM⟩
  · obtain ⟨c0, e0, s1, cM, cMm, rM, gM⟩ := fin a
    clear fin p8
    refine w_ fun d => ?_
    refine (cM _ hE03).mono ?_
    rintro _ w5 ⟨rfl, hP5⟩
    refine w_ fun d => ?_
    refine (cMm _ _ hP5).mono ?_
    rintro _ w6 ⟨rfl, hP6⟩
    refine w_ fun d => ?_
    refine qq (rM.quiet (w := w6)) fun w7 hE7 hs7 => ?_
    refine w_ fun d => ?_
    exact ⟨s1, rfl, hP6.ext ext_, gM⟩
end
end Go.Proofs.YtpeindhocndmnaaGreat

namespace Go.Proofs.YtpeindhocndmnaaGreat
open Go Go.Bx
set_option linter.unusedSimpArgs false
set_option linter.unusedVariables false
set_option maxRecDepth 100000
set_option maxHeartbeats 4000000
attribute [local irreducible] X XO XE XF XD XW thenX inX retX kN CallsR
section
variable {W w w' w1 w2 : World} {p ps pm : Nat} {s s' sM : Md} {n v x y lo hi : Int}
def OneI (W w : World) (ps : Nat) (s : Md) : Prop := ∃ own, StI own w ps s [] ∧ (∀ k, own k ≠ 0 → W.heap.size ≤ k) ∧ Ext W w
theorem OneI.ext (h : OneI W w ps s) (hE : Ext w w') : OneI W w' ps s := by
  obtain ⟨a, h1, h2, h3⟩ := h
  exact ⟨a, h1.ext hE, h2, h3.trans hE⟩
theorem OneI.new {most : Int} (h0' : 0 ≤ most) (h1' : most ≤ 20000) (w : World) : CallsR Tryz.prog 32 #[.int .i64 most] w fun r w' => ∃ p, r = .pointer (some ⟨p, 0, none⟩) ∧ OneI w w' p (Md.new most) := by
  refine (stNew_calls most h0' h1' w).mono ?_
  rintro r w' ⟨own, p, rfl, h, ho, hE⟩
  exact ⟨p, rfl, own, h, ho, hE⟩
theorem begin_calls (most : Int) (h0' : 0 ≤ most) (h1' : most ≤ 20000) (w : World) :
    CallsR Tryz.prog 16 #[.int .i64 most] w fun r w' => ∃ ps pm, r = .tuple #[.pointer (some ⟨ps, 0, none⟩), .pointer (some ⟨pm, 0, none⟩)] ∧ PrI w w' ps pm (Md.new most) (Md.new most) := by
  have c0 := stNew_calls most h0' h1'
  have c1 := rsNew_calls most h0' h1'
  refine en1 Tryz.func16 Tryz.results16 mixed [] ?_
  intro e0 h0
  refine w_ fun d => ?_
  refine (c0 _).mono ?_
  rintro _ w1 ⟨own, p, rfl, hI, ho, hE⟩
  have hE1 : Ext w w1 := Ext.trans (by exact ext_) hE
  have ho' : ∀ k, own k ≠ 0 → w.heap.size ≤ k := fun k hk => by have := ho k hk; simpa only [dr_heap] using this
  clear ho hE
  refine w_ fun d => ?_
  refine (c1 _).mono ?_
  rintro _ w2 ⟨ownM, pm, rfl, hM, hoM, hE2⟩
  have hoM' : ∀ k, ownM k ≠ 0 → w1.heap.size ≤ k := fun k hk => by have := hoM k hk; simpa only [dr_heap] using this
  have hE12 : Ext w1 w2 := Ext.trans (by exact ext_) hE2
  have hs1 := hE1.size
  refine w_ fun d => ?_
  refine ⟨p, pm, rfl, own, ownM, hI.ext hE12, hM, fun k hk => ?_, ho', fun k hk => by have := hoM' k hk; omega, hE1.trans hE12⟩
  have := hI.lt k hk
  cases hm : ownM k with
  | zero => rfl
  | succ m => have := hoM' k (by omega); omega
theorem begin_none (most : Int) (h : ¬ (0 ≤ most ∧ most ≤ 20000)) : Sure Tryz.prog 16 #[.int .i64 most] (.tuple #[.pointer none, .pointer none]) := by
  intro w
  have c0 := stNew_none most h
  clear h
  refine en1 Tryz.func16 Tryz.results16 mixed [] ?_
  intro e0 h0
  refine w_ fun d => ?_
  refine qq (c0.quiet (w := w)) fun w1 hE1 hs1 => ?_
  refine w_ fun d => ?_
  exact ⟨rfl, ext_⟩
end
end Go.Proofs.YtpeindhocndmnaaGreat

namespace Go.Proofs.YtpeindhocndmnaaGreat
open Go Go.Bx
set_option linter.unusedSimpArgs false
set_option linter.unusedVariables false
set_option maxRecDepth 100000
set_option maxHeartbeats 4000000
attribute [local irreducible] X XO XE XF XD XW thenX inX retX kN CallsR
section
variable {W w w' w1 w2 : World} {p ps pm : Nat} {s s' sM : Md} {n v x y lo hi : Int}
def okD (d : Dd07) : Prop := okI d.2.1 ∧ okI d.2.2.1 ∧ okI d.2.2.2.1
theorem deedAt {a : Option Addr} {l : List Dd07} {i : Nat} {q b c d : Int} {r : Bool} (h : Inp w 5 a (l.map encD)) (hd : l[i]? = some (q, b, c, d, r)) :
    ∃ g o cs E fz, a = some ⟨g, o, none⟩ ∧ w.heap[g]? = some (.cells cs E fz) ∧ o + i * 5 + 5 ≤ cs.size ∧ cs.extract (o + i * 5) (o + i * 5 + 5) = #[.int .i64 q, .int .i64 b, .int .i64 c, .int .i64 d, .bool r] := by
  rcases h with h | ⟨g, o, cs, E, fz, rfl, h2, h3⟩
  · rw [List.map_eq_nil_iff.1 h] at hd; simp at hd
  · have hr := h3 i (encD (q, b, c, d, r)) (by rw [List.getElem?_map, hd]; rfl)
    have c0 := hr 0 _ rfl
    have c1 := hr 1 _ rfl
    have c2 := hr 2 _ rfl
    have c3 := hr 3 _ rfl
    have c4 := hr 4 _ rfl
    have hs := (Array.getElem?_eq_some_iff.1 c4).1
    refine ⟨g, o, cs, E, fz, rfl, h2, by omega, ?_⟩
    apply Array.ext_getElem?
    intro j
    rw [Array.getElem?_extract]
    match j with
    | 0 => rw [if_pos (by omega), Nat.add_zero]; simpa using c0
    | 1 => rw [if_pos (by omega)]; simpa [Nat.add_assoc] using c1
    | 2 => rw [if_pos (by omega)]; simpa [Nat.add_assoc] using c2
    | 3 => rw [if_pos (by omega)]; simpa [Nat.add_assoc] using c3
    | 4 => rw [if_pos (by omega)]; simpa [Nat.add_assoc] using c4
    | j + 5 => rw [if_neg (by omega)]; simp
end
end Go.Proofs.YtpeindhocndmnaaGreat

namespace Go.Bx
open Go Go.ChangeShapes Go.WideShapes Go.ChangeAt Go.RowKit
theorem Ext.below {W W' : World} (h : Ext W W') : Below W.heap.size W W' := ⟨h.os, h.tape, h.output, h.size, h.heap⟩
section
variable {H : Type} {enc : TypeId × Value → H} {P : Program}
theorem trodAll_stays (hl : laidOutB P = true) {W W' : World} (hE : Ext W W') : ∀ {ts : List TypeId} {vs : List Value} {ds : List (DataW H)} {ps : List MemPlace},
    (∀ t ∈ ts, P.readableRec t = true ∧ t < P.types.size) → DataW.TrodAll enc P W 0 (fun _ => true) true ts vs ds ps → (∀ x ∈ ps, x.block < W.heap.size) →
    DataW.TrodAll enc P W' 0 (fun b => decide (b < W.heap.size)) true ts vs ds ps
  | [], [], [], _, _, h, _ => h
  | t :: ts, v :: vs, d :: ds, _, ht, ⟨p, q, h, hs, e⟩, hlt =>
    ⟨p, q, Below.trod hl (ht t (by simp)).1 (ht t (by simp)).2 h hE.below (fun x hx => hlt x (by rw [e]; exact List.mem_append_left _ hx)),
      trodAll_stays hl hE (fun t hm => ht t (by simp [hm])) hs (fun x hx => hlt x (by rw [e]; exact List.mem_append_right _ hx)), e⟩
  | [], [], _ :: _, _, _, h, _ => h.elim
  | [], _ :: _, _, _, _, h, _ => by cases ‹List (DataW H)› <;> exact h.elim
  | _ :: _, [], _, _, _, h, _ => by cases ‹List (DataW H)› <;> exact h.elim
  | _ :: _, _ :: _, [], _, _, h, _ => h.elim
theorem law_post {f : Func} {s : ChangeSpec} {W W' : World} {args : Array Value} {ds gs : List (DataW H)} {before : List MemPlace} {tb : TypeId}
    (hl : laidOutB P = true) (hts : f.params.toList.all (fun t => P.readableRec t && decide (t < P.types.size)) = true) (hv : s.vars = []) (hrt : f.resultTypes = #[tb]) (hb : P.underlying tb = some .bool)
    (hW : DataW.Whole enc P f.params.toList s.vars false W args.toList ds gs before)
    (hfn : (s.fn H (ds ++ gs)).results = [.lit (.bool true)] ∧ (s.fn H (ds ++ gs)).args = ds ∧ (s.fn H (ds ++ gs)).vars = [])
    (hE : Ext W W') : s.post enc P f false true false false W args (.bool true) W' := by
  have hW' := hW
  obtain ⟨p, q, hA, hV, rfl, _, _⟩ := hW
  rw [hv] at hV
  obtain ⟨rfl, rfl⟩ := trodVars_none hV
  have hlt : ∀ x ∈ p, x.block < W.heap.size := fun x hx => hW'.lt x (by simpa using hx)
  refine ⟨ds, [], _, [], p, [], hW', ?_, ?_, ?_, hE.below.frame _, fun h => by cases h⟩
  · rw [hfn.1, hrt]
    exact trodAll_mk1 (shut_bool hb true)
  · rw [hfn.2.1]
    refine trodAll_stays hl hE (fun t ht => ?_) hA hlt
    have := List.all_eq_true.1 hts t ht
    simpa [Bool.and_eq_true] using this
  · rw [hfn.2.2, hv]
    exact rfl
theorem exists_list {α : Type} {p : Nat → α → Prop} : ∀ (n : Nat), (∀ i, i < n → ∃ y, p i y) → ∃ ys : List α, ys.length = n ∧ ∀ i y, ys[i]? = some y → p i y
  | 0, _ => ⟨[], rfl, fun i y h => by cases h⟩
  | n + 1, h => by
    obtain ⟨ys, hl, hy⟩ := exists_list n (fun i hi => h i (by omega))
    obtain ⟨y, hp⟩ := h n (by omega)
    refine ⟨ys ++ [y], by simp [hl], fun i z hz => ?_⟩
    rw [List.getElem?_append] at hz
    split at hz
    · exact hy i z hz
    · rename_i hge
      have hi : i = n := by
        have := (List.getElem?_eq_some_iff.1 hz).1
        simp at this; omega
      subst hi
      have : i - ys.length = 0 := by omega
      rw [this] at hz
      cases hz
      exact hp
theorem rd1_some {o : Option Obj} {i : Nat} {u : Value} (h : rd1 o i = some u) : ∃ c E fz, o = some (.cells c E fz) ∧ c[i]? = some u := by
  unfold rd1 at h
  split at h
  · exact ⟨_, _, _, rfl, h⟩
  · cases h
theorem trod_rows {α : Type} {W : World} {base : Nat} {spare : Nat → Bool} {held : Bool} {fuel t E s : Nat} {cs : List Value} {x : DataW H × List MemPlace} (ht : P.underlying t = some (.slice E)) (hs : P.cellsOf E = s) (hs0 : 0 < s) {f : α → List Value} {good : α → Prop}
    (dec : ∀ n cs x, DataW.trod enc P W base spare held n E cs = some x → ∃ y, cs = f y ∧ good y) (h : DataW.trod enc P W base spare held fuel t cs = some x) :
    ∃ (ys : List α) (a : Option Addr) (cap : Nat), cs = [.slice a ys.length cap] ∧ Inp W s a (ys.map f) ∧ (∀ y ∈ ys, good y) ∧ ys.length ≤ cap ∧ cap ≤ maxLen := by
  rcases DataW.trod_slice ht h with ⟨h0, _⟩ | ⟨a, len, cap, elems, rest, n, _, rfl, _, hb, hl, hm, hlen, hel, _, _⟩
  · exact ⟨[], none, 0, h0, .inl rfl, (fun y hy => by cases hy), by simp, by simp⟩
  · rw [hs] at hel
    have hrow : ∀ i, i < len → ∃ y : α, W.cells? base (a.add (i * s)) s = some (f y) ∧ good y := by
      intro i hi
      have h1 := hel i hi
      rw [List.getElem?_eq_getElem (show i < elems.length by omega)] at h1
      obtain ⟨ci, h2, h3⟩ := Option.bind_eq_some_iff.1 h1
      obtain ⟨y, rfl, hg⟩ := dec _ _ _ h3
      exact ⟨y, h2, hg⟩
    obtain ⟨ys, hyl, hy⟩ := exists_list len hrow
    refine ⟨ys, some a, cap, by rw [hyl], ?_, fun y hm => ?_, by omega, hm⟩
    · by_cases h0 : len = 0
      · subst h0
        left
        rw [List.length_eq_zero_iff.1 hyl]; rfl
      · right
        have hcell : ∀ i y, ys[i]? = some y → ∀ j u, (f y)[j]? = some u → W.cell? ((a.add (i * s)).add j) = some u := by
          intro i y hiy j u hj
          have h1 := (hy i y hiy).1
          unfold World.cells? at h1
          split at h1
          · have hlen2 : (f y).length = s := by simpa using mapM_some_length h1
            have hjs : j < s := by have := (List.getElem?_eq_some_iff.1 hj).1; omega
            have h2 := mapM_some_get h1 j j (by simp [hjs])
            rw [hj] at h2
            exact h2
          · cases h1
        obtain ⟨y0, hy0⟩ : ∃ y, ys[0]? = some y := ⟨ys[0]'(by omega), List.getElem?_eq_getElem (by omega)⟩
        have hlen0 : (f y0).length = s := by
          have h1 := (hy 0 y0 hy0).1
          unfold World.cells? at h1
          split at h1
          · simpa using mapM_some_length h1
          · cases h1
        obtain ⟨u0, hu0⟩ : ∃ u, (f y0)[0]? = some u := ⟨(f y0)[0]'(by omega), List.getElem?_eq_getElem (by omega)⟩
        have hc0 := hcell 0 y0 hy0 0 u0 hu0
        obtain ⟨b, off, spot⟩ := a
        have hspot : spot = none := by simpa [Addr.add] using World.cell?_spot hc0
        subst hspot
        simp only [add_none, Nat.add_assoc, cell_rd1] at hcell hc0
        obtain ⟨c, E', fz, hbk, _⟩ := rd1_some hc0
        refine ⟨b, off, c, E', fz, rfl, hbk, fun i x hx j u hj => ?_⟩
        rw [List.getElem?_map] at hx
        obtain ⟨y, hiy, rfl⟩ := Option.map_eq_some_iff.1 hx
        have := hcell i y hiy j u hj
        rw [hbk] at this
        rw [Nat.add_assoc]
        exact this
    · obtain ⟨i, hi⟩ := List.mem_iff_getElem?.1 hm
      exact (hy i y hi).2
theorem open_rows {α : Type} {r : Reach} {b0 : Nat} {W : World} {base : Nat} {spare : Nat → Bool} {held : Bool} {t E s : Nat} {v : Value} {d : DataW H} {ps : List MemPlace} (ht : P.underlying t = some (.slice E)) (hs : P.cellsOf E = s) (hs0 : 0 < s) {f : α → List Value} {good : α → Prop}
    (dec : ∀ n cs x, DataW.trod enc P W base spare held n E cs = some x → ∃ y, cs = f y ∧ good y) (hval : Value.okWide P W r b0 t v) (hd : DataW.Trod enc P W base spare held t v d ps) :
    ∃ (ys : List α) (a : Option Addr) (cap : Nat), v = .slice a ys.length cap ∧ Inp W s a (ys.map f) ∧ (∀ y ∈ ys, good y) ∧ ys.length ≤ cap ∧ cap ≤ maxLen := by
  obtain ⟨a, len, cap, rfl⟩ := okWide_slice ht hval
  obtain ⟨fuel, hf⟩ := hd
  obtain ⟨ys, a', cap', h1, h2⟩ := trod_rows ht hs hs0 dec hf
  have h3 : [Value.slice a len cap] = [.slice a' ys.length cap'] := h1
  cases h3
  exact ⟨ys, _, _, rfl, h2⟩
theorem dec_int {W : World} {base : Nat} {spare : Nat → Bool} {held : Bool} {E : Nat} {k : IntKind} (hE : P.underlying E = some (.int k)) : ∀ n cs x, DataW.trod enc P W base spare held n E cs = some x → ∃ y : Int, cs = [.int k y] ∧ (Lit.int k y).wf = true := by
  intro n cs x h
  obtain ⟨y, h1, _, h2⟩ := DataW.trod_int hE h
  exact ⟨y, h1, h2⟩
theorem sl_sized {w : World} {base : Nat} {spare : Nat → Bool} {held : Bool} {t E n c : Nat} {a : Option Addr} {d : DataW H} {ps : List MemPlace} {ts : List TypeId} {ds : List (DataW H)} (ht : P.underlying t = some (.slice E)) (hb : 0 < P.bytesOf E)
    (hsz : (DataW.weightsEach P ts ds).all (· ≤ reachBytes) = true) (j : Nat) (hj : ts[j]? = some t) (hdj : ds[j]? = some d) (hd : DataW.Trod enc P w base spare held t (.slice a n c) d ps) : n ≤ 140737488351232 := by
  obtain ⟨fuel, hf⟩ := hd
  rcases DataW.trod_slice ht hf with ⟨h0, _⟩ | ⟨a', len, cap, elems, rest, m, _, h0, h1, _, _, _, hl, _⟩
  · have : [Value.slice a n c] = [.slice none 0 0] := h0
    cases this; exact Nat.zero_le _
  · have : [Value.slice a n c] = [.slice (some a') len cap] := h0
    cases this
    cases h1
    have := sized_slice hsz hj hdj ht
    rw [List.length_map, List.length_map, hl] at this
    have h2 : n * 1 ≤ (n + rest.length) * P.bytesOf E := Nat.mul_le_mul (Nat.le_add_right _ _) hb
    have h3 : reachBytes = 140737488351232 := by decide
    omega
end
end Go.Bx

namespace Go.Bx
open Go Go.ChangeShapes Go.WideShapes Go.ChangeAt Go.RowKit
end Go.Bx

namespace Go.Proofs.YtpeindhocndmnaaGreat
open Go Go.Bx Go.ChangeShapes Go.WideShapes Go.ChangeAt Go.RowKit
set_option linter.unusedVariables false
set_option maxRecDepth 100000
theorem own : ownKnob Tryz.prog.godebug = none := by kernel_rfl
theorem laidOut : laidOutB Tryz.prog = true := by kernel_rfl
theorem wf_i64 {x : Int} (h : (Lit.int .i64 x).wf = true) : okI x := by
  simp [Lit.wf] at h
  have h1 : IntKind.i64.min = -9223372036854775808 := by decide +kernel
  have h2 : IntKind.i64.max = 9223372036854775807 := by decide +kernel
  unfold okI; omega
theorem dec_deed07 {H : Type} {enc : TypeId × Value → H} {W : World} {base : Nat} {spare : Nat → Bool} {held : Bool} : ∀ n cs x, DataW.trod enc Tryz.prog W base spare held n 44 cs = some x → ∃ y : Dd07, cs = encD y ∧ okD y := by
  intro n cs x h
  obtain ⟨xs, m, rfl, _, hl, hxl, hf⟩ := DataW.trod_struct Tryz.underlying44 h
  have hc3 : Tryz.prog.cellsOf 3 = 1 := by kernel_rfl
  have hc4 : Tryz.prog.cellsOf 4 = 1 := by kernel_rfl
  have hc : Tryz.prog.cellsOf 44 = 5 := by kernel_rfl
  rw [hc] at hl
  match cs, hl with
  | [c0, c1, c2, c3, c4], _ =>
    match xs, hxl with
    | [x0, x1, x2, x3, x4], _ =>
      have h0 := hf 0 _ rfl
      have h1 := hf 1 _ rfl
      have h2 := hf 2 _ rfl
      have h3 := hf 3 _ rfl
      have h4 := hf 4 _ rfl
      obtain ⟨y0, e0, _, g0⟩ := DataW.trod_int Tryz.underlying3 h0
      obtain ⟨y1, e1, _, g1⟩ := DataW.trod_int Tryz.underlying3 h1
      obtain ⟨y2, e2, _, g2⟩ := DataW.trod_int Tryz.underlying3 h2
      obtain ⟨y3, e3, _, g3⟩ := DataW.trod_int Tryz.underlying3 h3
      obtain ⟨y4, e4, _⟩ := DataW.trod_bool Tryz.underlying4 h4
      simp [hc3, hc4] at e0 e1 e2 e3 e4
      subst e0 e1 e2 e3 e4
      exact ⟨(y0, y1, y2, y3, y4), rfl, wf_i64 g1, wf_i64 g2, wf_i64 g3⟩
end Go.Proofs.YtpeindhocndmnaaGreat

namespace Go.Proofs.YtpeindhocndmnaaGreat
open Go Go.Bx
set_option linter.unusedSimpArgs false
set_option linter.unusedVariables false
set_option maxRecDepth 100000
set_option maxHeartbeats 4000000
attribute [local irreducible] X XO XE XF XD XW thenX inX retX kN CallsR
theorem not_calls (f : Fun8) (w : World) : CallsR Tryz.prog 98 #[fv f] w fun r w' => r = fv (notF f) ∧ Ext w w' := by
  refine en1 Tryz.func98 Tryz.results98 mixed [] ?_
  intro e0 h0
  refine w_ fun d => ?_
  refine un_ 5 ?_
  refine w_ fun d => ?_
  exact ⟨fv_of4 (word_notF (by decide)) (word_notF (by decide)) (word_notF (by decide)) (word_notF (by decide)), ext_⟩
theorem ite_calls (f g h : Fun8) (w : World) : CallsR Tryz.prog 93 #[fv f, fv g, fv h] w fun r w' => r = fv (iteF f g h) ∧ Ext w w' := by
  refine en3 Tryz.func93 Tryz.results93 mixed [] ?_
  intro e0 h0 h1 h2
  refine w_ fun d => ?_
  refine un_ 5 ?_
  refine w_ fun d => ?_
  exact ⟨fv_of4 (word_iteF (by decide)) (word_iteF (by decide)) (word_iteF (by decide)) (word_iteF (by decide)), ext_⟩
theorem const_calls (b : Bool) (w : World) : CallsR Tryz.prog 65 #[.bool b] w fun r w' => r = fv (constF b) ∧ Ext w w' := by
  obtain ⟨Z, hZ⟩ : ∃ Z, constF false = Z := ⟨_, rfl⟩
  have z := zero_fv
  rw [hZ] at z
  refine en1 Tryz.func65 Tryz.results65 mixed [] ?_
  intro e0 h0
  cases b
  · refine w_ fun d => ?_
    exact ⟨by rw [hZ], ext_⟩
  · refine w_ fun d => ?_
    refine callQ (not_calls Z _) fun w1 hE hs => ?_
    refine w_ fun d => ?_
    exact ⟨by rw [← hZ, notF_const], ext_⟩
theorem low_get : ∀ v : Nat, v < 6 → (#[.int .u64 12297829382473034410, .int .u64 14757395258967641292, .int .u64 17361641481138401520, .int .u64 18374966859414961920, .int .u64 18446462603027742720, .int .u64 18446744069414584320] : Array Value)[v]? = some (vU (lowW v)) := by
  intro v hv
  match v, hv with
  | 0, _ => rfl
  | 1, _ => rfl
  | 2, _ => rfl
  | 3, _ => rfl
  | 4, _ => rfl
  | 5, _ => rfl
theorem low_calls (v : Nat) (hv : v < 6) (w : World) : CallsR Tryz.prog 113 #[.int .i64 v] w fun r w' => r = vU (lowW v) ∧ Ext w w' := by
  have hg := low_get v hv
  refine en1 Tryz.func113 Tryz.results113 mixed [] ?_
  intro e0 h0
  refine w_ fun d => ?_
  exact ⟨rfl, Ext.refl w⟩
theorem var_calls (v : Int) (w : World) : CallsR Tryz.prog 94 #[.int .i64 v] w fun r w' => r = fv (varF v) ∧ Ext w w' := by
  refine en1 Tryz.func94 Tryz.results94 mixed [] ?_
  intro e0 h0
  by_cases hv : 0 ≤ v ∧ v < 6
  · obtain ⟨n, rfl⟩ := Int.eq_ofNat_of_zero_le hv.1
    have hn : n < 6 := by omega
    have e : ∀ k, lowW n = varW (n : Int) k := fun k => by rw [varW, if_pos hv]; rfl
    refine w_ fun d => ?_
    refine un_ 5 ?_
    refine w_ fun d => ?_
    refine callQ (low_calls n hn _) fun w1 hE hs => ?_
    refine w_ fun d => ?_
    refine callQ (low_calls n hn _) fun w2 hE hs => ?_
    refine w_ fun d => ?_
    refine callQ (low_calls n hn _) fun w3 hE hs => ?_
    refine w_ fun d => ?_
    refine callQ (low_calls n hn _) fun w4 hE hs => ?_
    refine w_ fun d => ?_
    exact ⟨fv_of4 ((e 0).trans (word_varF (by decide))) ((e 1).trans (word_varF (by decide))) ((e 2).trans (word_varF (by decide))) ((e 3).trans (word_varF (by decide))), ext_⟩
  · by_cases h67 : v = 6 ∨ v = 7
    · have f4 : ∀ a b c d : Value, a = vU (varW v 0) → b = vU (varW v 1) → c = vU (varW v 2) → d = vU (varW v 3) → Value.agg #[a, b, c, d] = fv (varF v) := by
        rintro _ _ _ _ rfl rfl rfl rfl
        exact fv_of4 (word_varF (by decide)) (word_varF (by decide)) (word_varF (by decide)) (word_varF (by decide))
      rcases h67 with rfl | rfl
      · refine w_ fun d => ?_
        refine un_ 5 ?_
        refine w_ fun d => ?_
        exact ⟨rfl, ext_⟩
      · refine w_ fun d => ?_
        refine un_ 5 ?_
        refine w_ fun d => ?_
        exact ⟨rfl, ext_⟩
    · have h6 : v ≠ 6 := fun h => h67 (.inl h)
      have h7 : v ≠ 7 := fun h => h67 (.inr h)
      have ho : varF v = constF false := varF_out (by omega)
      by_cases h0' : 0 ≤ v
      · have h1' : ¬ v < 6 := by omega
        refine w_ fun d => ?_
        refine un_ 5 ?_
        refine w_ fun d => ?_
        exact ⟨by rw [ho]; first | done | exact zero_fv, ext_⟩
      · refine w_ fun d => ?_
        refine un_ 5 ?_
        refine w_ fun d => ?_
        exact ⟨by rw [ho]; first | done | exact zero_fv, ext_⟩
end Go.Proofs.YtpeindhocndmnaaGreat

namespace Go.Proofs.YtpeindhocndmnaaGreat
open Go Go.Bx
set_option linter.unusedSimpArgs false
set_option linter.unusedVariables false
set_option maxRecDepth 100000
set_option maxHeartbeats 4000000
attribute [local irreducible] X XO XE XF XD XW thenX inX retX kN CallsR
theorem step_all : ∀ v : Nat, v < 8 → IntKind.i64.wrap (1 * 2 ^ min v IntKind.i64.bits) = ((2 ^ v : Nat) : Int) := by decide +kernel
theorem agg_list (f : Fun8) : fv f = .agg (([(word f 0).toNat, (word f 1).toNat, (word f 2).toNat, (word f 3).toNat].map fun n : Nat => (n : Int)).map (Value.int .u64)).toArray := rfl
theorem words_eq (f g : Fun8) : (([(word f 0).toNat, (word f 1).toNat, (word f 2).toNat, (word f 3).toNat].map fun n : Nat => (n : Int)) = ([(word g 0).toNat, (word g 1).toNat, (word g 2).toNat, (word g 3).toNat].map fun n : Nat => (n : Int))) ↔ f = g := by
  constructor
  · intro h
    simp only [List.map_cons, List.map_nil, List.cons.injEq, and_true] at h
    obtain ⟨h0, h1, h2, h3⟩ := h
    refine fn_words fun k hk => ?_
    match k, hk with
    | 0, _ => exact BitVec.eq_of_toNat_eq (by omega)
    | 1, _ => exact BitVec.eq_of_toNat_eq (by omega)
    | 2, _ => exact BitVec.eq_of_toNat_eq (by omega)
    | 3, _ => exact BitVec.eq_of_toNat_eq (by omega)
  · rintro rfl; rfl
theorem fun_eql {x y : Operand} {f g : Fun8} {w : World} : binR Tryz.prog .eql 48 x y (fv f) (fv g) w = .ok (.bool (decide (f = g))) w := by
  rw [agg_list, agg_list, binR_eqlA (by kernel_rfl) (equal_ints T48 T46 rfl rfl)]
  rw [decide_eq_decide.2 (words_eq f g)]
theorem fun_neq {x y : Operand} {f g : Fun8} {w : World} : binR Tryz.prog .neq 48 x y (fv f) (fv g) w = .ok (.bool (!decide (f = g))) w := by
  rw [agg_list, agg_list, binR_neqA (by kernel_rfl) (equal_ints T48 T46 rfl rfl)]
  rw [decide_eq_decide.2 (words_eq f g)]
attribute [push_cast] fun_eql fun_neq
theorem cof_calls (f : Fun8) (v : Int) (b : Bool) (w : World) : CallsR Tryz.prog 100 #[fv f, .int .i64 v, .bool b] w fun r w' => r = fv (cofF f v b) ∧ Ext w w' := by
  refine en3 Tryz.func100 Tryz.results100 mixed [(1015, [1])] ?_
  intro e0 h0 h1 h2
  by_cases hv : ¬ (0 ≤ v ∧ v < 8)
  · have ho := cofF_out (f := f) (b := b) hv
    by_cases h0v : v < 0
    · refine w_ fun d => ?_
      exact ⟨by rw [ho], ext_⟩
    · have : 8 ≤ v := by omega
      refine w_ fun d => ?_
      exact ⟨by rw [ho], ext_⟩
  obtain ⟨h0v, h8v⟩ := Classical.not_not.1 hv
  clear hv
  obtain ⟨n, rfl⟩ := Int.eq_ofNat_of_zero_le h0v
  have n8 : n < 8 := by omega
  by_cases hn6 : n < 6
  · have hst := step_all n n8
    have hV : ∀ k, k < 4 → word (varF n) k = lowW n := fun k hk => by rw [← word_varF hk, varW, if_pos (by omega)]; rfl
    have hvar := var_calls (n : Int)
    generalize varF (n : Int) = V at hV hvar
    obtain ⟨V0, V1, V2, V3⟩ := (⟨hV 0 (by decide), hV 1 (by decide), hV 2 (by decide), hV 3 (by decide)⟩ : _ ∧ _ ∧ _ ∧ _)
    have h64 : 2 ^ n ≤ 64 := (by decide : ∀ n : Nat, n < 6 → 2 ^ n ≤ 64) n hn6
    have wt : ∀ k, k < 4 → _ := fun k hk => word_cof_t (f := f) hn6 hk
    have wf : ∀ k, k < 4 → _ := fun k hk => word_cof_f (f := f) hn6 hk
    obtain ⟨S, ⟨hS⟩⟩ : ∃ S : Nat, Box (2 ^ n = S) := ⟨_, ⟨rfl⟩⟩
    rw [hS] at hst h64
    simp only [hS] at wt wf
    have c1 : Sure Tryz.prog 94 #[.int .i64 n] (fv V) := hvar
    refine w_ fun d => ?_
    refine s_wide (xw_ ?_)
    refine xf0A ?_
    refine xf3qA ?_
    refine xf0A ?_
    refine xf0A ?_
    refine xf2A fun w2 hE2 hw2 => ?_
    have hs2 := hE2.size
    simp only [alloc_size] at hs2
    refine krA ?_
    refine kv ?_
    refine ⟨ext_, ?_⟩
    refine xf2A fun w3 hE3 hw3 => ?_
    have hs3 := hw3.size
    simp only [alloc_size] at hs3
    refine krA ?_
    refine ks ?_
    refine ⟨ext_, ?_⟩
    refine xf0A ?_
    refine xf_nil fun w4 hw4 => ?_
    have hs4 := hw4.size
    simp only [upd_size] at hs4
    refine w_ fun d => ?_
    refine un_ 5 ?_
    cases b
    · refine w_ fun d => ?_
      exact ⟨rfl, ext_⟩
    · refine w_ fun d => ?_
      exact ⟨rfl, ext_⟩
  · obtain ⟨m, rfl⟩ : ∃ m, n = m + 6 := ⟨n - 6, by omega⟩
    have hw : ∀ k, k < 4 → word f (setB k m b) = word (cofF f (m + 6 : Nat) b) k := fun k hk => word_cof_h (by omega) hk
    have e0 : bits .andNot .i64 0 1 = 0 ∧ bits .andNot .i64 1 1 = 0 ∧ bits .andNot .i64 2 1 = 2 ∧ bits .andNot .i64 3 1 = 2 ∧ bits .andNot .i64 0 2 = 0 ∧ bits .andNot .i64 1 2 = 1 ∧ bits .andNot .i64 2 2 = 0 ∧ bits .andNot .i64 3 2 = 1 := by decide +kernel
    have e1 : bits .or .i64 0 1 = 1 ∧ bits .or .i64 1 1 = 1 ∧ bits .or .i64 2 1 = 3 ∧ bits .or .i64 3 1 = 3 ∧ bits .or .i64 0 2 = 2 ∧ bits .or .i64 1 2 = 3 ∧ bits .or .i64 2 2 = 2 ∧ bits .or .i64 3 2 = 3 := by decide +kernel
    have e2 : IntKind.i64.wrap (1 * 2 ^ min 0 IntKind.i64.bits) = 1 ∧ IntKind.i64.wrap (1 * 2 ^ min 1 IntKind.i64.bits) = 2 := by decide +kernel
    have hm : m = 0 ∨ m = 1 := by omega
    rcases hm with rfl | rfl <;> cases b
    · refine w_ fun d => ?_
      refine un_ 5 ?_
      refine w_ fun d => ?_
      exact ⟨fv_of4 (hw 0 (by decide)) (hw 1 (by decide)) (hw 2 (by decide)) (hw 3 (by decide)), ext_⟩
    · refine w_ fun d => ?_
      refine un_ 5 ?_
      refine w_ fun d => ?_
      exact ⟨fv_of4 (hw 0 (by decide)) (hw 1 (by decide)) (hw 2 (by decide)) (hw 3 (by decide)), ext_⟩
    · refine w_ fun d => ?_
      refine un_ 5 ?_
      refine w_ fun d => ?_
      exact ⟨fv_of4 (hw 0 (by decide)) (hw 1 (by decide)) (hw 2 (by decide)) (hw 3 (by decide)), ext_⟩
    · refine w_ fun d => ?_
      refine un_ 5 ?_
      refine w_ fun d => ?_
      exact ⟨fv_of4 (hw 0 (by decide)) (hw 1 (by decide)) (hw 2 (by decide)) (hw 3 (by decide)), ext_⟩
theorem depends_calls (f : Fun8) (v : Int) (w : World) : CallsR Tryz.prog 99 #[fv f, .int .i64 v] w fun r w' => r = .bool (depF f v) ∧ Ext w w' := by
  have c1 : Sure Tryz.prog 100 #[fv f, .int .i64 v, .bool false] _ := cof_calls f v false
  have c2 : Sure Tryz.prog 100 #[fv f, .int .i64 v, .bool true] _ := cof_calls f v true
  refine en2 Tryz.func99 Tryz.results99 mixed [] ?_
  intro e0 h0 h1
  refine w_ fun d => ?_
  intro w1 hE hs
  refine w_ fun d => ?_
  exact ⟨by rw [depF_def], ext_⟩
end Go.Proofs.YtpeindhocndmnaaGreat

namespace Go.Proofs.YtpeindhocndmnaaGreat
open Go Go.Bx
set_option linter.unusedSimpArgs false
set_option linter.unusedVariables false
set_option maxRecDepth 100000
set_option maxHeartbeats 4000000
attribute [local irreducible] X XO XE XF XD XW thenX inX retX kN CallsR
theorem find_of_eq {κ : Type} [DecidableEq κ] {P : Program} {kt : TypeId} {kf : κ → Value} {ok : κ → Prop} (hwide : (match P.underlying kt with | some (.array _ _) | some (.struct _) => true | _ => false) = true)
    (heq : ∀ a b w, ok a → ok b → (Op.equal kt (kf a) (kf b)).run P w = .ok (decide (a = b)) w) (k : κ) (es : List (Ent κ)) (w : World) (hk : ok k) (hes : ∀ e ∈ es, ok e.1) :
    (Instr.findKey kt (kf k) (es.map (mEnt kf))).run P w = .ok (mfind es k) w := by
  rw [run_findKey_eq w hwide]
  have gen : ∀ (es : List (Ent κ)) (i : Nat), (∀ e ∈ es, ok e.1) → (Instr.findAsking kt (kf k) (es.map (mEnt kf)) i).run P w = .ok (mfindFrom k es i) w := by
    intro es
    induction es with
    | nil => intro i _; rfl
    | cons e es ih =>
      intro i he
      have h1 := heq k e.1 w hk (he e (by simp))
      simp only [List.map_cons, Instr.findAsking, mEnt, Sem.run_bind, h1, Result.andThen_ok, mfindFrom]
      by_cases hke : e.1 = k
      · subst hke; simp [pure, Sem.run]
      · have : decide (k = e.1) = false := decide_eq_false fun h => hke h.symm
        rw [this, if_neg hke]
        simp only [Bool.false_eq_true, if_false]
        exact ih (i + 1) fun x hx => he x (by simp [hx])
  exact gen es 0 hes
theorem fun_equal {f g : Fun8} {w : World} : (Op.equal 48 (fv f) (fv g)).run Tryz.prog w = .ok (decide (f = g)) w := by
  rw [agg_list, agg_list, equal_ints T48 T46 rfl rfl, decide_eq_decide.2 (words_eq f g)]
theorem fun_keys : KeyOK Tryz.prog 48 fv fun _ => True where
  check := fun e k w _ => by kernel_rfl
  find := find_of_eq (by kernel_rfl) fun a b w _ _ => fun_equal
  stay := fun k w _ => by
    have : Instr.sameBits 10000 (fv k) (fv k) = true := by
      show Instr.sameBits (9999 + 1) (fv k) (fv k) = true
      simp [fv, w4, Instr.sameBits, vU]
    simp [Instr.keyThatStays, this, pure, Sem.run]
section
variable {w : World} {b clock : Nat} {es : List (Ent Fun8)} {f : Fun8} {n : Int} {u v : Value}
theorem luF2 (h : w.heap[b]? = some (mObj fv es clock)) : luO Tryz.prog 105 b (fv f) true w (some (mObj fv es clock)) h = .ok (.tuple #[(mget es f).getD (.int .i64 0), .bool (mget es f).isSome]) w := lookup_at h T105 T3 fun_keys trivial (fun _ _ => trivial) true
theorem muF (h : w.heap[b]? = some (mObj fv es clock)) : muO Tryz.prog 105 b (fv f) v w (some (mObj fv es clock)) h = .ok () (upd w b (mObj fv (mput es f v clock) (mclock es f clock))) := update_at h T105 fun_keys trivial (fun _ _ => trivial) v
attribute [push_cast] luF2 muF
end
end Go.Proofs.YtpeindhocndmnaaGreat

namespace Go.Bx
open Go
set_option linter.unusedSimpArgs false
set_option linter.unusedVariables false
def topF (ord : List Int) (f : Fun8) : Int := (ord.find? (depF f)).getD (-1)
def kids (ord : List Int) (f : Fun8) : List Fun8 := if 0 ≤ topF ord f then [cofF f (topF ord f) false, cofF f (topF ord f) true] else []
inductive Rch (ord : List Int) (l : List Fun8) : Fun8 → Prop
  | base {f} : f ∈ l → Rch ord l f
  | step {g f} : Rch ord l g → f ∈ kids ord g → Rch ord l f
structure IsNodes (ord : List Int) (l ns : List Fun8) : Prop where
  nodup : ns.Nodup
  mem : ∀ f, f ∈ ns ↔ Rch ord l f ∧ supF f ≠ 0
theorem sub_len {α : Type} [DecidableEq α] : ∀ {l m : List α}, l.Nodup → (∀ x ∈ l, x ∈ m) → l.length ≤ m.length
  | [], m, _, _ => by simp
  | x :: l, m, hn, h => by
    have hx := h x (by simp)
    have hn' := List.nodup_cons.1 hn
    have := sub_len (m := m.erase x) hn'.2 fun y hy => (List.mem_erase_of_ne (by intro e; subst e; exact hn'.1 hy)).2 (h y (by simp [hy]))
    rw [List.length_erase_of_mem hx] at this
    have := List.length_pos_of_mem hx
    simp only [List.length_cons]; omega
theorem IsNodes.len {ord : List Int} {l k ns ms : List Fun8} (h : IsNodes ord l ns) (h' : IsNodes ord k ms) (hr : ∀ f, Rch ord l f ↔ Rch ord k f) : ns.length = ms.length :=
  Nat.le_antisymm (sub_len h.nodup fun f hf => (h'.mem f).2 (by rw [← hr]; exact (h.mem f).1 hf)) (sub_len h'.nodup fun f hf => (h.mem f).2 (by rw [hr]; exact (h'.mem f).1 hf))
open Classical in
noncomputable def sizeF (ord : List Int) (l : List Fun8) : Nat := if h : ∃ ns, IsNodes ord l ns then (Classical.choose h).length else 0
theorem IsNodes.size {ord : List Int} {l ns : List Fun8} (h : IsNodes ord l ns) : ns.length = sizeF ord l := by
  have hh : ∃ ns, IsNodes ord l ns := ⟨ns, h⟩
  unfold sizeF
  rw [dif_pos hh]
  exact h.len (Classical.choose_spec hh) fun f => Iff.rfl
theorem cnt_mono {p q : Nat → Bool} : ∀ {n : Nat}, (∀ i, i < n → p i = true → q i = true) → cnt p n ≤ cnt q n
  | 0, _ => Nat.le_refl _
  | n + 1, h => by
    have := cnt_mono (n := n) fun i hi => h i (by omega)
    have h2 := h n (by omega)
    simp only [cnt]
    cases hp : p n <;> cases hq : q n <;> simp_all <;> omega
theorem cnt_lt {p q : Nat → Bool} : ∀ {n : Nat}, (∀ i, i < n → p i = true → q i = true) → (∃ j, j < n ∧ p j = false ∧ q j = true) → cnt p n < cnt q n
  | 0, _, ⟨j, h, _⟩ => by omega
  | n + 1, h, ⟨j, hj, h1, h2⟩ => by
    have h0 := cnt_mono (n := n) fun i hi => h i (by omega)
    simp only [cnt]
    by_cases e : j = n
    · subst e; rw [h1, h2]; simp; omega
    · have := cnt_lt (n := n) (fun i hi => h i (by omega)) ⟨j, by omega, h1, h2⟩
      have h3 := h n (by omega)
      cases hp : p n <;> cases hq : q n <;> simp_all <;> omega
def nv (f : Fun8) : Nat := cnt (fun v => depF f v) 8
theorem nv_le {f : Fun8} : nv f ≤ 8 := cnt_le _ 8
theorem dep_range {f : Fun8} {v : Int} (h : depF f v = true) : 0 ≤ v ∧ v < 8 := by
  by_cases h' : 0 ≤ v ∧ v < 8
  · exact h'
  · rw [depF_out h'] at h; cases h
theorem dep_of_cof {f : Fun8} {v u : Int} {b : Bool} (h : depF (cofF f v b) u = true) : depF f u = true := by
  by_cases e : v = u
  · subst e; rw [dep_cof] at h; cases h
  · rw [depF_def] at h ⊢
    by_cases hc : cofF f u false = cofF f u true
    · rw [cof_comm e, cof_comm e, hc] at h; simp at h
    · simp [hc]
theorem nv_cof {f : Fun8} {v : Int} {b : Bool} (h : depF f v = true) : nv (cofF f v b) < nv f := by
  obtain ⟨n, rfl, hn⟩ := nat8 (dep_range h)
  exact cnt_lt (fun i _ hi => dep_of_cof hi) ⟨n, hn, dep_cof, h⟩
theorem topF_dep {ord : List Int} {f : Fun8} (h : 0 ≤ topF ord f) : depF f (topF ord f) = true := by
  unfold topF at h ⊢
  cases hf : ord.find? (depF f) with
  | none => rw [hf] at h; simp at h
  | some v => exact (by simpa using List.find?_some hf)
theorem supTo_zero {f : Fun8} : ∀ {k : Nat}, supTo f k = 0 ↔ ∀ v, v < k → depF f (v : Nat) = false
  | 0 => by simp [supTo]
  | k + 1 => by
    have hp : 0 < 2 ^ k := Nat.two_pow_pos k
    rw [supTo]
    constructor
    · intro h v hv
      by_cases e : v = k
      · subst e
        cases hd : depF f v
        · rfl
        · rw [hd] at h; simp at h
      · exact (supTo_zero (k := k)).1 (by omega) v (by omega)
    · intro h
      rw [(supTo_zero (k := k)).2 fun v hv => h v (by omega), h k (by omega)]
      simp
theorem supF_zero {f : Fun8} : supF f = 0 ↔ ∀ v : Int, depF f v = false := by
  rw [supF_def, supTo_zero]
  constructor
  · intro h v
    by_cases h' : 0 ≤ v ∧ v < 8
    · obtain ⟨n, rfl, hn⟩ := nat8 h'
      exact h n hn
    · exact depF_out h'
  · exact fun h v _ => h v
theorem kids_flat {ord : List Int} {f : Fun8} (h : supF f = 0) : kids ord f = [] := by
  unfold kids
  by_cases h' : 0 ≤ topF ord f
  · have := topF_dep h'
    rw [supF_zero.1 h] at this; cases this
  · rw [if_neg h']
def wt (f : Fun8) : Nat := 3 ^ nv f
def wts (l : List Fun8) : Nat := (l.map wt).sum
theorem wt_pos {f : Fun8} : 0 < wt f := Nat.pow_pos (by decide)
theorem wts_app {l k : List Fun8} : wts (l ++ k) = wts l + wts k := by simp [wts]
theorem wts_cons {f : Fun8} {l : List Fun8} : wts (f :: l) = wt f + wts l := by simp [wts]
theorem wts_nil : wts [] = 0 := rfl
theorem wts_kids {ord : List Int} {f : Fun8} : wts (kids ord f) < wt f := by
  unfold kids
  by_cases h : 0 ≤ topF ord f
  · have hd := topF_dep h
    rw [if_pos h, wts_cons, wts_cons, wts_nil]
    have key : ∀ b, 3 * wt (cofF f (topF ord f) b) ≤ wt f := fun b => by
      have := nv_cof (b := b) hd
      unfold wt
      calc 3 * 3 ^ nv (cofF f (topF ord f) b) = 3 ^ (nv (cofF f (topF ord f) b) + 1) := by rw [Nat.pow_succ]; omega
        _ ≤ 3 ^ nv f := Nat.pow_le_pow_right (by decide) this
    have h1 := key false
    have h2 := key true
    have := wt_pos (f := f)
    omega
  · rw [if_neg h]; exact wt_pos
section
variable {ord : List Int} {l keys work : List Fun8} {f : Fun8}
structure Dfs (ord : List Int) (l keys work : List Fun8) : Prop where
  nodup : keys.Nodup
  sn : ∀ f ∈ keys, Rch ord l f ∧ supF f ≠ 0
  wk : ∀ f ∈ work, Rch ord l f
  kd : ∀ f ∈ keys, ∀ g ∈ kids ord f, g ∈ keys ∨ g ∈ work ∨ supF g = 0
  all : ∀ g ∈ l, g ∈ keys ∨ g ∈ work ∨ supF g = 0
theorem Dfs.init : Dfs ord l [] l := ⟨List.nodup_nil, (fun f h => by cases h), fun _ h => .base h, (fun f h => by cases h), fun g h => .inr (.inl h)⟩
theorem Dfs.skip {ws : List Fun8} (h : Dfs ord l keys (ws ++ [f])) (hf : f ∈ keys ∨ supF f = 0) : Dfs ord l keys ws := by
  have key : ∀ g, g ∈ keys ∨ g ∈ ws ++ [f] ∨ supF g = 0 → g ∈ keys ∨ g ∈ ws ∨ supF g = 0 := by
    rintro g (h1 | h1 | h1)
    · exact .inl h1
    · rcases List.mem_append.1 h1 with h2 | h2
      · exact .inr (.inl h2)
      · rw [List.mem_singleton] at h2
        subst h2
        exact hf.elim .inl fun h => .inr (.inr h)
    · exact .inr (.inr h1)
  exact ⟨h.nodup, h.sn, fun g hg => h.wk g (by simp [hg]), fun g hg k hk => key k (h.kd g hg k hk), fun g hg => key g (h.all g hg)⟩
theorem Dfs.go {ws : List Fun8} (h : Dfs ord l keys (ws ++ [f])) (hk : f ∉ keys) (hs : supF f ≠ 0) : Dfs ord l (keys ++ [f]) (ws ++ kids ord f) := by
  have hr := h.wk f (by simp)
  have key : ∀ g, g ∈ keys ∨ g ∈ ws ++ [f] ∨ supF g = 0 → g ∈ keys ++ [f] ∨ g ∈ ws ++ kids ord f ∨ supF g = 0 := by
    rintro g (h1 | h1 | h1)
    · exact .inl (by simp [h1])
    · rcases List.mem_append.1 h1 with h2 | h2
      · exact .inr (.inl (by simp [h2]))
      · exact .inl (by simp at h2; simp [h2])
    · exact .inr (.inr h1)
  refine ⟨?_, ?_, ?_, ?_, fun g hg => key g (h.all g hg)⟩
  · rw [List.nodup_append]
    exact ⟨h.nodup, by simp, fun a ha b hb => by simp at hb; subst hb; intro e; subst e; exact hk ha⟩
  · intro g hg
    rcases List.mem_append.1 hg with h1 | h1
    · exact h.sn g h1
    · rw [List.mem_singleton] at h1; subst h1; exact ⟨hr, hs⟩
  · intro g hg
    rcases List.mem_append.1 hg with h1 | h1
    · exact h.wk g (by simp [h1])
    · exact .step hr h1
  · intro g hg k hgk
    rcases List.mem_append.1 hg with h1 | h1
    · exact key k (h.kd g h1 k hgk)
    · rw [List.mem_singleton] at h1; subst h1; exact .inr (.inl (by simp [hgk]))
theorem Dfs.done (h : Dfs ord l keys []) : IsNodes ord l keys := by
  refine ⟨h.nodup, fun f => ⟨h.sn f, fun ⟨hr, hs⟩ => ?_⟩⟩
  have key : ∀ g, Rch ord l g → g ∈ keys ∨ supF g = 0 := by
    intro g hg
    induction hg with
    | base h1 => rcases h.all _ h1 with h2 | h2 | h2
                 · exact .inl h2
                 · cases h2
                 · exact .inr h2
    | step _ h1 ih =>
      rcases ih with ih | ih
      · rcases h.kd _ ih _ h1 with h2 | h2 | h2
        · exact .inl h2
        · cases h2
        · exact .inr h2
      · rw [kids_flat ih] at h1; cases h1
  exact (key f hr).resolve_right hs
theorem Dfs.meas {ws : List Fun8} : wts (ws ++ kids ord f) < wts (ws ++ [f]) ∧ wts ws < wts (ws ++ [f]) := by
  have := wts_kids (ord := ord) (f := f)
  have := wt_pos (f := f)
  rw [wts_app, wts_app, wts_cons, wts_nil]; omega
structure Bfs (ord : List Int) (l seen out work : List Fun8) (i : Nat) : Prop where
  le : i ≤ work.length
  sn : ∀ f, f ∈ seen ↔ f ∈ work.take i
  nodup : out.Nodup
  ot : ∀ f, f ∈ out ↔ f ∈ work.take i ∧ supF f ≠ 0
  wk : ∀ f ∈ work, Rch ord l f
  kd : ∀ f ∈ work.take i, ∀ g ∈ kids ord f, g ∈ work
  all : ∀ f ∈ l, f ∈ work
variable {seen out : List Fun8} {i : Nat}
end
end Go.Bx

