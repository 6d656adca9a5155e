/- RsW, RsM, RsF, RsS, Law00, Law00b, StNew, Law07, Law07b, Law07c, Law07d, LawKit, LawFv, StOpen, Tab, Cof, KeyF, SizeP, Ref01, Ref02, Size, FvOpen, BldP, BldP2, ReadB, BxAny, ReadB2, BxRel, BxRel2, ReadT, SizeP2, SizeP3, FullP, IteP, IteP2, OneT, MpI, BxCut, SoK, RchP: texts of this work, one behind the other. -/
import Derived.Test.YtpeindhocndmnaaSw5
import Derived.WalkKit
import Derived.ProofKit
import Derived.OpenShut
import Derived.ShutString
import Derived.ChangeOld
import Derived.Below
import Derived.Carry
import Derived.SizedLaws
import Derived.KernelRfl
import Derived.Test.YtpeindhocndmnaaRows
import Derived.Shelf.Small.Bits
import Derived.Shelf.Sort.Plain
import Derived.Sort.OwnSortedInts
namespace Go.Proofs.Ytpeindhocndmnaa
open Go Go.Bx
set_option linter.unusedSimpArgs false
set_option linter.unusedVariables false
set_option maxRecDepth 100000
set_option maxHeartbeats 4000000
attribute [local irreducible] X XO XE XF XD XW thenX inX retX kN CallsR
section
variable {own own1 own2 : Nat → Nat} {w w' w1 w2 : World} {p : Nat} {s : Md} {n v x y : Int}
theorem refLevel_oc {ord : List Int} {oc : Array Value} (h : OrdC ord oc) (v : Int) : Sure Try.prog 25 #[.agg oc, .int .i64 v] (.int .i64 (lvl ord v)) := by
  have := refLevel_calls ord h.len v
  rw [h.agg] at this; exact this
theorem wf_N (W : s.WF) : s.N.length ≤ 20000 := by
  have h1 := W.len
  have h2 := W.ar.lim
  have h3 := W.ar.most
  omega
theorem rsHas_calls (h : RsI own w p s) (W : s.WF) (n : Int) (hn : n ≤ 9223372036854775807) : Quiet Try.prog 133 #[.pointer (some ⟨p, 0, none⟩), .int .i64 n] w (.bool (s.has n)) := by
  intro u hu
  obtain ⟨pa, na, nc, sc, oc, h⟩ := h.ext hu
  clear hu
  have hp := h.at_
  have c1 := h.rc.c0
  have hsz := h.rc.size
  have c2 := raHas_calls h.ar W.ar (n - 2)
  have hm : (decide (2 ≤ n) && s.a.has (n - 2)) = s.has n := rfl
  by_cases h2 : 2 ≤ n
  · have hm : s.a.has (n - 2) = s.has n := by rw [← hm]; simp [h2]
    rw [hm] at c2
    clear h hm W
    refine en2 Try.func133 Try.results133 mixed [] ?_
    intro e0 h0 h1
    refine w_ fun d => ?_
    refine qq c2 fun w1 hE1 hs1 => ?_
    refine w_ fun d => ?_
    exact ⟨rfl, ext_⟩
  · have hm : s.has n = false := by rw [← hm]; simp [h2]
    rw [hm]
    clear h hm W c2
    refine en2 Try.func133 Try.results133 mixed [] ?_
    intro e0 h0 h1
    refine w_ fun d => ?_
    exact ⟨rfl, ext_⟩
theorem rsNode_calls (h : RsI own w p s) (W : s.WF) (n : Int) (hn : n ≤ 9223372036854775807) : Quiet Try.prog 88 #[.pointer (some ⟨p, 0, none⟩), .int .i64 n] w (.tuple #[ndV (s.node n).1, .bool (s.node n).2]) := by
  intro u hu
  have h := h.ext hu
  clear hu
  have c1 := rsHas_calls h W n hn
  obtain ⟨pa, na, nc, sc, oc, h⟩ := h
  unfold Md.node
  cases hh : s.has n
  · rw [hh] at c1
    simp only [Bool.false_eq_true, ↓reduceIte]
    clear h W hh
    refine en2 Try.func88 Try.results88 mixed [] ?_
    intro e0 h0 h1
    refine w_ fun d => ?_
    refine qq c1 fun w1 hE1 hs1 => ?_
    refine w_ fun d => ?_
    refine rcuA ?_
    exact ⟨rfl, ext_⟩
  · rw [hh] at c1
    simp only [↓reduceIte]
    have hx := W.get hh
    have hl := W.lt hh
    obtain ⟨x, hxx⟩ : ∃ x, s.nd n = x := ⟨_, rfl⟩
    rw [hxx] at hx ⊢
    obtain ⟨v, lo, hi⟩ := x
    obtain ⟨g, cur, rfl, hg, hc, hlt, x0, x1, x2, hsz3, hex⟩ := h.no.at hx
    have hp := h.at_
    have c2 := h.rc.c1
    have hsz := h.rc.size
    have hpl := lt_of_heap hp
    have hgl := lt_of_heap hg
    have hl1 := hl.2
    have hl0 : 0 ≤ n - 2 := by omega
    clear h W hh hxx hx hl
    refine en2 Try.func88 Try.results88 mixed [] ?_
    intro e0 h0 h1
    refine w_ fun d => ?_
    refine qq c1 fun w1 hE1 hs1 => ?_
    have hs2 := sz_ hE1
    refine w_ fun d => ?_
    refine rcuA ?_
    exact ⟨rfl, ext_⟩
theorem rsAll_calls (h : RsI own w p s) (W : s.WF) : CallsR Try.prog 90 #[.pointer (some ⟨p, 0, none⟩)] w fun r w' => ∃ a' cap', r = .slice a' s.all.length cap' ∧ SlC w' 3 a' cap' (ints s.all) ∧ (∀ g, blk a' = some g → w.heap.size ≤ g) ∧ Ext w w' := by
  have hN := wf_N W
  have hh := fun k : Nat => rsHas_calls h W ((k : Int) + 2)
  obtain ⟨pa, na, nc, sc, oc, h⟩ := h
  have hp := h.at_
  have c2 := h.rc.c1
  have hsz := h.rc.size
  have hpl := lt_of_heap hp
  clear h W
  refine en1 Try.func90 Try.results90 mixed [] ?_
  intro e0 h0
  refine w_ fun d => ?_
  refine lo_ (fun W e w' => ∃ (k : Nat) (a' : Option Addr) (cap' : Nat) (m : List Int), k ≤ s.N.length ∧ e 4 = .int .i64 ((k : Int) + 2) ∧ e 3 = .slice a' m.length cap' ∧ SlC w' 3 a' cap' (ints m) ∧ (∀ g, blk a' = some g → w.heap.size ≤ g) ∧ Box (m = s.allTo k) ∧ Ext w w') (fun e _ => s.N.length + 2 - nat (e 4)) ?_ ?_
  · exact ⟨0, none, 0, [], by omega, eA rfl, eA rfl, SlC.nil _ _, (fun g h => by cases h), ⟨rfl⟩, ext_⟩
  rintro e w1 hf ⟨k, a', cap', m, hk, h4, h3, hS, hn, ⟨hi⟩, hE⟩
  have hs1 := sz_ hE
  have hml : m.length ≤ k := by rw [hi]; exact allTo_len
  have hpE := hE.at hp
  by_cases hlt : k < s.N.length
  · have hsc := allTo_succ (s := s) (k := k)
    have hq := (hh k (by omega)).at hE
    have e1 : (k : Int) + 2 + 1 = ((k + 1 : Nat) : Int) + 2 := by omega
    have e2 : (k : Int) + 2 + 1 - 2 = (k : Int) + 1 := by omega
    cases hb : s.has ((k : Int) + 2)
    · rw [hb] at hq hsc
      have hi' : Box (m = s.allTo (k + 1)) := ⟨by rw [hsc, hi]; rfl⟩
      clear hi hsc hh hb
      refine w_ fun d => ?_
      refine qq hq fun w2 hE2 hs2 => ?_
      have hEw2 := hE.trans hE2
      have hS2 := hS.ext hE2
      refine w_ fun d => ?_
      exact ⟨⟨k + 1, a', cap', m, by omega, by rw [← e1]; exact eA rfl, eA rfl, hS2, hn, hi', hEw2⟩, mA⟩
    · rw [hb] at hq hsc
      have hi' : Box (m ++ [(k : Int) + 2] = s.allTo (k + 1)) := ⟨by rw [hsc, hi]; rfl⟩
      clear hi hsc hh hb
      refine w_ fun d => ?_
      refine qq hq fun w2 hE2 hs2 => ?_
      have hEw2 := hE.trans hE2
      have hS2 := hS.ext hE2
      obtain ⟨a3, c3, w3, hr, hS3, hC3, hs3, hB3⟩ := pushI hS2 (by omega) ((k : Int) + 2)
      have hE3 : Ext w w3 := hC3.toExt hEw2 fun g hg hb => by have := hn g hb; omega
      have hn3 : ∀ g, blk a3 = some g → w.heap.size ≤ g := fun g hg => by
        rcases hB3 g hg with h | ⟨h, _⟩
        · exact hn g h
        · omega
      clear hS hS2 hC3 hB3 hn
      refine w_ fun d => ?_
      exact ⟨⟨k + 1, a3, c3, m ++ [(k : Int) + 2], by omega, by rw [← e1]; exact eA rfl, by rw [List.length_append]; exact eA rfl, hS3, hn3, hi', hE3⟩, mA⟩
  · obtain rfl : k = s.N.length := by omega
    rw [allTo_all] at hi
    subst hi
    clear hh
    refine w_ fun d => ?_
    exact ⟨a', cap', rfl, hS, hn, ext_⟩
theorem rsRoom_calls (h : RsI own w p s) (W : s.WF) : Quiet Try.prog 91 #[.pointer (some ⟨p, 0, none⟩)] w (.int .i64 s.room) := by
  intro u hu
  obtain ⟨pa, na, nc, sc, oc, h⟩ := h.ext hu
  clear hu
  have hp := h.at_
  have c1 := h.rc.c0
  have hsz := h.rc.size
  obtain ⟨K, ta, tc, fa, fc, hA⟩ := h.ar
  have hKl := hA.len W.ar
  have hpa := hA.at_
  have hm := W.ar.many_le
  have hmo := W.ar.most
  have hr : s.a.most - K.length = s.room := by rw [hKl]; rfl
  have hk : (K.length : Int) ≤ 20000 := by omega
  have hr0 : -20000 ≤ s.room ∧ s.room ≤ 20000 := by unfold Md.room; omega
  clear h W hA hKl
  refine en1 Try.func91 Try.results91 mixed [] ?_
  intro e0 h0
  refine w_ fun d => ?_
  exact ⟨rfl, ext_⟩
theorem rsBehind_calls (h : RsI own w p s) (W : s.WF) (n v : Int) (hn : n ≤ 9223372036854775807) : Quiet Try.prog 146 #[.pointer (some ⟨p, 0, none⟩), .int .i64 n, .int .i64 v] w (.bool (s.below n v)) := by
  intro u hu
  have h := h.ext hu
  clear hu
  have c1 := rsNode_calls h W n hn
  obtain ⟨pa, na, nc, sc, oc, h⟩ := h
  have hbd : s.below n v = (decide (n = 0) || (decide (n = 1) || (s.has n && decide (lvl s.ord v < lvl s.ord (s.nd n).1)))) := rfl
  unfold Md.node at c1
  cases hh : s.has n
  · rw [hh] at c1 hbd
    simp only [Bool.false_eq_true, ↓reduceIte, ndV] at c1
    have : s.below n v = ((n == 0) || (n == 1)) := by rw [hbd]; simp; rfl
    rw [this]
    clear h W hh hbd this
    by_cases e0 : n = 0
    · subst e0
      refine en3 Try.func146 Try.results146 mixed [] ?_
      intro e0 h0 h1 h2
      refine w_ fun d => ?_
      refine qq c1 fun w1 hE1 hs1 => ?_
      refine w_ fun d => ?_
      exact ⟨rfl, ext_⟩
    · have b0 : (n == 0) = false := by simpa using e0
      rw [b0]
      clear e0
      refine en3 Try.func146 Try.results146 mixed [] ?_
      intro e0 h0 h1 h2
      refine w_ fun d => ?_
      refine qq c1 fun w1 hE1 hs1 => ?_
      refine w_ fun d => ?_
      exact ⟨rfl, ext_⟩
  · rw [hh] at c1 hbd
    simp only [↓reduceIte, ndV] at c1
    have h2' := Md.has_ge hh
    obtain ⟨z, hz⟩ : ∃ z, s.nd n = z := ⟨_, rfl⟩
    rw [hz] at c1 hbd
    obtain ⟨x, lo, hi⟩ := z
    have : s.below n v = decide (lvl s.ord v < lvl s.ord x) := by
      rw [hbd]
      have e0 : ¬ n = 0 := by omega
      have e1 : ¬ n = 1 := by omega
      simp [e0, e1]
    rw [this]
    have hp := h.at_
    have co := h.rc.co
    have hsz := h.rc.size
    have hpl := lt_of_heap hp
    have l1 := refLevel_oc h.oc x
    have l2 := refLevel_oc h.oc v
    dsimp only at c1
    clear h W hh hbd this hz
    refine en3 Try.func146 Try.results146 mixed [] ?_
    intro e0 h0 h1 h2
    refine w_ fun d => ?_
    refine qq c1 fun w1 hE1 hs1 => ?_
    have hpE := hE1.at hp
    have hpl1 := lt_of_heap hpE
    refine w_ fun d => ?_
    intro w2 hE2 hs2
    refine w_ fun d => ?_
    exact ⟨rfl, ext_⟩
theorem rsOf_calls (h : RsI own w p s) (W : s.WF) (n v : Int) (hn : n ≤ 9223372036854775807) : Quiet Try.prog 108 #[.pointer (some ⟨p, 0, none⟩), .int .i64 n, .int .i64 v] w (.bool (s.of n v)) := by
  intro u hu
  have h := h.ext hu
  clear hu
  have c1 := rsNode_calls h W n hn
  unfold Md.node at c1
  unfold Md.of
  cases hh : s.has n
  · rw [hh] at c1
    simp only [Bool.false_eq_true, ↓reduceIte, ndV, Bool.false_and] at c1 ⊢
    clear h W hh
    refine en3 Try.func108 Try.results108 mixed [] ?_
    intro e0 h0 h1 h2
    refine w_ fun d => ?_
    refine qq c1 fun w1 hE1 hs1 => ?_
    refine w_ fun d => ?_
    exact ⟨rfl, ext_⟩
  · rw [hh] at c1
    simp only [↓reduceIte, ndV, Bool.true_and] at c1 ⊢
    obtain ⟨z, hz⟩ : ∃ z, s.nd n = z := ⟨_, rfl⟩
    rw [hz] at c1 ⊢
    obtain ⟨x, lo, hi⟩ := z
    have e : decide (x = v) = (x == v) := rfl
    dsimp only at c1 ⊢
    rw [e]
    clear h W hh hz e
    refine en3 Try.func108 Try.results108 mixed [] ?_
    intro e0 h0 h1 h2
    refine w_ fun d => ?_
    refine qq c1 fun w1 hE1 hs1 => ?_
    refine w_ fun d => ?_
    exact ⟨rfl, ext_⟩
theorem rsSide_calls (h : RsI own w p s) (W : s.WF) (n y b : Int) (hn : n ≤ 9223372036854775807) : Quiet Try.prog 111 #[.pointer (some ⟨p, 0, none⟩), .int .i64 n, .int .i64 y, .int .i64 b] w (.int .i64 (s.side n y (b != 0))) := by
  intro u hu
  have h := h.ext hu
  clear hu
  have c1 := rsOf_calls h W n y hn
  obtain ⟨pa, na, nc, sc, oc, h⟩ := h
  unfold Md.side
  cases hh : s.of n y
  · rw [hh] at c1
    simp only [Bool.false_eq_true, ↓reduceIte]
    clear h W hh
    refine en4 Try.func111 Try.results111 mixed [] ?_
    intro e0 h0 h1 h2 h3
    refine w_ fun d => ?_
    refine qq c1 fun w1 hE1 hs1 => ?_
    refine w_ fun d => ?_
    exact ⟨rfl, ext_⟩
  · rw [hh] at c1
    have hhas := (Md.of_iff.1 hh).1
    have hx := W.get hhas
    have hl := W.lt hhas
    obtain ⟨z, hz⟩ : ∃ z, s.nd n = z := ⟨_, rfl⟩
    rw [hz] at hx ⊢
    obtain ⟨v, lo, hi⟩ := z
    obtain ⟨g, cur, rfl, hg, hc, hlt, x0, x1, x2, hsz3, hex⟩ := h.no.at hx
    have hp := h.at_
    have c2 := h.rc.c1
    have hsz := h.rc.size
    have hpl := lt_of_heap hp
    have hgl := lt_of_heap hg
    have hl1 := hl.2
    have hl0 : 0 ≤ n - 2 := by omega
    simp only [↓reduceIte]
    clear h W hh hz hx hl hhas
    by_cases e : b = 0
    · subst e
      refine en4 Try.func111 Try.results111 mixed [] ?_
      intro e0 h0 h1 h2 h3
      refine w_ fun d => ?_
      refine qq c1 fun w1 hE1 hs1 => ?_
      refine w_ fun d => ?_
      exact ⟨rfl, ext_⟩
    · have e' : (b == 0) = false := by simpa using e
      have e2 : (b != 0) = true := by simpa using e
      rw [e2]
      simp only [↓reduceIte]
      clear e
      refine en4 Try.func111 Try.results111 mixed [] ?_
      intro e0 h0 h1 h2 h3
      refine w_ fun d => ?_
      refine qq c1 fun w1 hE1 hs1 => ?_
      refine w_ fun d => ?_
      exact ⟨rfl, ext_⟩
end
end Go.Proofs.Ytpeindhocndmnaa

namespace Go.Proofs.Ytpeindhocndmnaa
open Go Go.Bx
set_option linter.unusedSimpArgs false
set_option linter.unusedVariables false
set_option maxRecDepth 100000
set_option maxHeartbeats 4000000
attribute [local irreducible] X XO XE XF XD XW thenX inX retX kN CallsR
theorem rin7_calls {w : World} {a : Option Addr} {c : Nat} {l : List Int} (hI : InI w a l) (hl : l.length ≤ 1099511627776) (n : Int) : Quiet Try.prog 119 #[.slice a l.length c, .int .i64 n] w (.bool (decide (n ∈ l))) := by
  intro u hu
  have hI := Inp.ext hI hu
  clear hu
  refine en2 Try.func119 Try.results119 mixed [] ?_
  intro e0 h0 h1
  refine w_ fun d => ?_
  refine lo_ (fun W e w' => ∃ k : Nat, k ≤ l.length ∧ e 5 = .int .i64 k ∧ Box (∀ j, j < k → l[j]? ≠ some n) ∧ Ext W w') (fun e _ => l.length - nat (e 5)) ?_ ?_
  · exact ⟨0, by omega, eA rfl, ⟨fun j hj => by omega⟩, ext_⟩
  rintro e w1 hf ⟨k, hk, h5, ⟨hi⟩, hE⟩
  have hs1 := sz_ hE
  have hI1 := Inp.ext hI hE
  clear hI
  by_cases hlt : k < l.length
  · obtain ⟨x, hx⟩ : ∃ x, l[k]? = some x := ⟨l[k], List.getElem?_eq_getElem (by omega)⟩
    rcases InI.at hI1 with rfl | ⟨b, o, cs, E, fz, rfl, hb, hat⟩
    · simp at hlt
    have hat := hat k x hx
    clear hI1
    by_cases e : x = n
    · subst e
      have hm : decide (x ∈ l) = true := decide_eq_true (List.mem_of_getElem? hx)
      clear hx hi
      refine w_ fun d => ?_
      exact ⟨by rw [hm], ext_⟩
    · have hi' : Box (∀ j, j < k + 1 → l[j]? ≠ some n) := ⟨fun j h => by
        by_cases e2 : j = k
        · subst e2; rw [hx]; simpa using e
        · exact hi j (by omega)⟩
      have e' : (x == n) = false := by simpa using e
      clear hx hi
      refine w_ fun d => ?_
      exact ⟨⟨k + 1, by omega, eA rfl, hi', ext_⟩, mA⟩
  · have hm := mem_not (by omega) hi
    obtain rfl : k = l.length := by omega
    clear hi hI1
    refine w_ fun d => ?_
    exact ⟨by rw [hm], ext_⟩
section
variable {own own1 own2 : Nat → Nat} {w w' w1 w2 : World} {p : Nat} {s : Md} {n v x y lo hi : Int} {but : List Int}
def findP (s : Md) (but : List Int) (x : Nd) (k : Nat) : Bool := decide (s.N[k]? = some x) && (s.a.has (k : Nat) && !decide (((k : Nat) : Int) + 2 ∈ but))
theorem find_first {x : Nd} {k : Nat} (hk : k < s.N.length) (h : findP s but x k = true) (hno : ∀ j, j < k → findP s but x j = false) : s.find but x = some ((k : Int) + 2) := by
  unfold Md.find
  have : (List.range s.N.length).find? (findP s but x) = some k := by
    rw [List.find?_range_eq_some]
    exact ⟨h, by simpa using hk, fun j hj => by rw [hno j hj]; rfl⟩
  unfold findP at this
  rw [this]; rfl
theorem find_no {x : Nd} (hno : ∀ j, j < s.N.length → findP s but x j = false) : s.find but x = none := by
  unfold Md.find
  have : (List.range s.N.length).find? (findP s but x) = none := by
    rw [List.find?_eq_none]
    intro j hj
    rw [hno j (by simpa using hj)]; simp
  unfold findP at this
  rw [this]; rfl
theorem SlN.app1 {a b0 : Option Addr} {cap c : Nat} {N : List Nd} (h : SlN w a cap N) (hm : N.length ≤ 1000000) (x : Nd) (hI : Inp w 3 b0 [rowN x]) :
    ∃ a' cap' w', apR Try.prog 116 (.slice a N.length cap) (.slice b0 1 c) w = .ok (.slice a' (N.length + 1) cap') w' ∧
      SlN w' a' cap' (N ++ [x]) ∧ Chg (fun k => blk a = some k) w w' ∧ (∀ g, blk a' = some g → blk a = some g ∨ (w.heap.size ≤ g ∧ g < w'.heap.size)) := by
  obtain ⟨a2, c2, w2, hr, hS2, hC2, hB2⟩ := Sl.append (news := [rowN x]) (c := c) h T116 (TI.mk' (sz := 3) (by_ := 24) (z := Value.agg #[Value.int IntKind.i64 0, Value.int IntKind.i64 0, Value.int IntKind.i64 0]) Try.underlying39 (by kernel_rfl)) rfl (by decide) hI (fun r hr => by rw [List.mem_singleton] at hr; subst hr; rfl) rfl (by rw [List.length_map]; simp; omega) (by decide)
  rw [List.length_map, show ((N.map rowN) ++ [rowN x]).length = N.length + 1 by simp] at hr
  exact ⟨a2, c2, w2, hr, by unfold SlN; rw [List.map_append]; exact hS2, hC2, hB2⟩
theorem rsMk_calls {aB : Option Addr} {cB : Nat} (h : RsI own w p s) (W : s.WF) (hI : InI w aB but) (hbl : but.length ≤ 1000000) (hlo : lo ≤ 9223372036854775807) (hhi : hi ≤ 9223372036854775807) :
    CallsR Try.prog 110 #[.pointer (some ⟨p, 0, none⟩), .int .i64 v, .int .i64 lo, .int .i64 hi, .slice aB but.length cB] w fun r w' => r = .tuple #[.int .i64 (s.mk' but v lo hi).1.1, .int .i64 (s.mk' but v lo hi).1.2] ∧ TrS own w p (s.mk' but v lo hi).2 w' := by
  have b0 := rsBehind_calls h W lo v hlo
  have b1 := rsBehind_calls h W hi v hhi
  by_cases hv : 0 ≤ v ∧ v < 8
  rotate_left
  · have e : s.mk' but v lo hi = ((0, 1), s) := by unfold Md.mk'; rw [if_pos (by simp; omega)]
    rw [e]
    clear b0 b1 hI W e
    by_cases hv0 : 0 ≤ v
    · have hv1 : ¬ v < 8 := fun h => hv ⟨hv0, h⟩
      clear hv
      refine en5 Try.func110 Try.results110 mixed [(1015, [4, 1010])] ?_
      intro e0 h0 h1 h2 h3 h4
      refine w_ fun d => ?_
      exact ⟨rfl, TrS.of_ext h ext_⟩
    · clear hv
      refine en5 Try.func110 Try.results110 mixed [(1015, [4, 1010])] ?_
      intro e0 h0 h1 h2 h3 h4
      refine w_ fun d => ?_
      exact ⟨rfl, TrS.of_ext h ext_⟩
  obtain ⟨hv0, hv1⟩ := hv
  cases e0 : s.below lo v
  · have e : s.mk' but v lo hi = ((0, 1), s) := by unfold Md.mk'; rw [if_pos (by simp [e0])]
    rw [e]
    rw [e0] at b0
    clear hI W e e0 b1
    refine en5 Try.func110 Try.results110 mixed [(1015, [4, 1010])] ?_
    intro e0 h0 h1 h2 h3 h4
    refine w_ fun d => ?_
    refine qq b0 fun w1 hE1 hs1 => ?_
    refine w_ fun d => ?_
    exact ⟨rfl, TrS.of_ext h ext_⟩
  cases e1 : s.below hi v
  · have e : s.mk' but v lo hi = ((0, 1), s) := by unfold Md.mk'; rw [if_pos (by simp [e1])]
    rw [e]
    rw [e0] at b0
    rw [e1] at b1
    clear hI W e e0 e1
    refine en5 Try.func110 Try.results110 mixed [(1015, [4, 1010])] ?_
    intro e0 h0 h1 h2 h3 h4
    refine w_ fun d => ?_
    refine qq b0 fun w1 hE1 hs1 => ?_
    refine w_ fun d => ?_
    refine qq b1 fun w2 hE2 hs2 => ?_
    refine w_ fun d => ?_
    exact ⟨rfl, TrS.of_ext h ext_⟩
  rw [e0] at b0
  rw [e1] at b1
  by_cases elh : lo = hi
  · have e : s.mk' but v lo hi = ((lo, 0), s) := by unfold Md.mk'; rw [if_neg (by simp [e0, e1]; omega), if_pos elh]
    rw [e]
    subst elh
    clear hI W e e0 e1
    refine en5 Try.func110 Try.results110 mixed [(1015, [4, 1010])] ?_
    intro e0 h0 h1 h2 h3 h4
    refine w_ fun d => ?_
    refine qq b0 fun w1 hE1 hs1 => ?_
    refine w_ fun d => ?_
    refine qq b1 fun w2 hE2 hs2 => ?_
    refine w_ fun d => ?_
    exact ⟨rfl, TrS.of_ext h ext_⟩
  have elh' : (lo == hi) = false := by simpa using elh
  have hmk : s.mk' but v lo hi = match s.find but (v, lo, hi) with
      | some n => ((n, 0), s)
      | none => match s.a.take with
        | none => ((0, 2), s)
        | some (k, b) => ((k + 2, 0), s.add k b (v, lo, hi)) := by
    unfold Md.mk'; rw [if_neg (by simp [e0, e1]; omega), if_neg elh]; rfl
  have hN := wf_N W
  have hh := fun u (hu : Ext w u) (k : Nat) (hk : k < 30000) => rsHas_calls (h.ext hu) W ((k : Int) + 2) (by omega)
  have hin := fun u (hu : Ext w u) (k : Nat) => rin7_calls (c := cB) (Inp.ext hI hu) (by omega) ((k : Int) + 2)
  clear e0 e1 elh
  refine en5 Try.func110 Try.results110 mixed [(1015, [4, 1010])] ?_
  intro e0 h0 h1 h2 h3 h4
  refine w_ fun d => ?_
  refine qq b0 fun w1 hE1 hs1 => ?_
  refine w_ fun d => ?_
  refine qq b1 fun w2 hE2 hs2 => ?_
  have hE2w := hE1.trans hE2
  refine w_ fun d => ?_
  refine at_w fun W0 hW0 => ?_
  have hEW : Ext w W0 := by rw [hW0]; exact ext_
  have hbx : W0.heap[w2.heap.size]? = some (.cells #[.int .i64 v, .int .i64 lo, .int .i64 hi] 39) := by rw [hW0]; exact hA rfl
  have hbo : own w2.heap.size = 0 := by
    cases ho : own w2.heap.size with
    | zero => rfl
    | succ m => have := h.lt w2.heap.size (by omega); have := hE2w.size; omega
  have hw2 := hE2w.size
  clear hW0 hE2 hE1 hs1 hs2
  clear w1
  refine lo_ (fun _ e w' => ∃ k : Nat, k ≤ s.N.length ∧ e 13 = .int .i64 ((k : Int) + 2) ∧ Box (∀ j, j < k → findP s but (v, lo, hi) j = false) ∧ Ext W0 w') (fun e _ => s.N.length + 2 - nat (e 13)) ?_ ?_
  · exact ⟨0, by omega, eA rfl, ⟨fun j hj => by omega⟩, ext_⟩
  rintro e u hf ⟨k, hk, h13, ⟨hno⟩, hEu⟩
  have hEwu := hEW.trans hEu
  have hbu := hEu.at hbx
  have hblu := lt_of_heap hbu
  obtain ⟨pa, na, nc, sc, oc, hX⟩ := h.ext hEwu
  have hp := hX.at_
  have cn := hX.rc.c1
  have ca := hX.rc.c0
  have hsz := hX.rc.size
  have hpl := lt_of_heap hp
  by_cases hlt : k < s.N.length
  · obtain ⟨z, hz⟩ : ∃ z, s.N[k]? = some z := ⟨s.N[k], List.getElem?_eq_getElem hlt⟩
    obtain ⟨a, b, c⟩ := z
    have q1 := (hh _ hEwu k (by omega))
    have q2 := (hin _ hEwu k)
    have hfp : findP s but (v, lo, hi) k = (decide ((a, b, c) = ((v, lo, hi) : Nd)) && (s.has ((k : Int) + 2) && !decide (((k : Nat) : Int) + 2 ∈ but))) := by
      unfold findP; rw [hz, Md.has_add]; simp
    have hno1 : findP s but (v, lo, hi) k = false → Box (∀ j, j < k + 1 → findP s but (v, lo, hi) j = false) := fun hb => ⟨fun j hj => by
      by_cases e2 : j = k
      · subst e2; exact hb
      · exact hno j (by omega)⟩
    obtain ⟨g, cur, rfl, hg, hc, _, x0, x1, x2, hsz3, hex⟩ := hX.no.at hz
    have hgl := lt_of_heap hg
    have e1 : (k : Int) + 2 + 1 = ((k + 1 : Nat) : Int) + 2 := by omega
    have e2 : (k : Int) + 2 - 2 = k := by omega
    by_cases eN : (a, b, c) = ((v, lo, hi) : Nd)
    · cases hhk : s.has ((k : Int) + 2)
      · rw [hhk] at q1
        have hno2 := hno1 (by rw [hfp, hhk]; simp)
        cases eN
        clear hno hno1 hfp hX hh hin hI W hz hmk
        refine w_ fun d => ?_
        intro u2 hE2' hs2'
        refine w_ fun d => ?_
        exact ⟨⟨k + 1, by omega, by rw [← e1]; exact eA rfl, hno2, ext_⟩, mA⟩
      · rw [hhk] at q1
        cases hib : decide (((k : Nat) : Int) + 2 ∈ but)
        · rw [hib] at q2
          have hfd := find_first hlt (by rw [hfp, hhk, hib, eN]; simp) hno
          rw [hfd] at hmk
          rw [hmk]
          cases eN
          clear hno hno1 hfp hX hh hin hI W hz hmk hib
          refine w_ fun d => ?_
          intro u2 hE2' hs2'
          refine w_ fun d => ?_
          exact ⟨rfl, TrS.of_ext h ext_⟩
        · rw [hib] at q2
          have hno2 := hno1 (by rw [hfp, hhk, hib]; simp)
          cases eN
          clear hno hno1 hfp hX hh hin hI W hz hmk hib
          refine w_ fun d => ?_
          intro u2 hE2' hs2'
          refine w_ fun d => ?_
          exact ⟨⟨k + 1, by omega, by rw [← e1]; exact eA rfl, hno2, ext_⟩, mA⟩
    · have hno2 := hno1 (by rw [hfp]; simp [eN])
      clear hno hno1 hfp hX hh hin hI W hz hmk
      refine w_ fun d => ?_
      exact ⟨⟨k + 1, by omega, by rw [← e1]; exact eA rfl, hno2, ext_⟩, mA⟩
  obtain rfl : k = s.N.length := by omega
  rw [find_no hno] at hmk
  have tk := raTake_calls hX.ar W.ar
  have htk := fun k b => W.ar.taken (n := k) (b := b)
  have hlen := W.len
  clear hh hin hI b0 b1 hno
  refine w_ fun d => ?_
  refine tk.mono ?_
  rintro _ u2 ⟨b, hres, hA, hC⟩
  have hX2 := hX.setAr hA hC
  have hSw2 : Sw own w (ownUp own u u2 2) u2 := (Sw.of_ext hEwu).trans ⟨fun k hk => ownUp_old hk, Chg.foot hC (by decide)⟩
  have hbx2 : u2.heap[w2.heap.size]? = some (.cells #[.int .i64 v, .int .i64 lo, .int .i64 hi] 39) := by
    rw [hC.heap _ (by omega) (by unfold owns; omega)]; exact hbu
  have hbo2 : ownUp own u u2 2 w2.heap.size = 0 := by rw [ownUp_old (by omega)]; exact hbo
  have hbl2 := lt_of_heap hbx2
  have hp2 := hX2.at_
  have hpl2 := lt_of_heap hp2
  generalize ownUp own u u2 2 = own2 at hX2 hSw2 hbo2
  rcases hres with ⟨k, hk1, rfl⟩ | ⟨hk1, rfl, rfl⟩
  rotate_left
  · rw [hk1] at hmk
    replace hmk : s.mk' but v lo hi = ((0, 2), s) := hmk
    rw [hmk]
    clear hX hA hC tk htk hmk
    refine w_ fun d => ?_
    exact ⟨rfl, own2, ⟨_, _, _, _, _, hX2⟩, hSw2⟩
  rw [hk1] at hmk
  replace hmk : s.mk' but v lo hi = ((k + 2, 0), s.add k b (v, lo, hi)) := hmk
  rw [hmk]
  obtain ⟨hb1, _, _, _, hk0, hkl, _, hbl'⟩ := htk k b hk1
  have hkN : k ≤ (s.N.length : Int) := by omega
  have hk0' : 0 ≤ k := hk0
  have hadd : s.add k b (v, lo, hi) = ⟨b, if k = s.N.length then s.N ++ [(v, lo, hi)] else s.N.set k.toNat (v, lo, hi), s.ord⟩ := rfl
  clear hX hA hC tk htk hmk hp hpl hbu hblu hb1 hbl' hlen hkl
  by_cases hkn : k = s.N.length
  · rw [hadd, if_pos hkn]
    subst hkn
    refine w_ fun d => ?_
    have cn2 := hX2.rc.c1
    have hsz2' := hX2.rc.size
    refine s_wide (XW_ext (D := fun u => u.heap[p]? = some (.cells sc 124)) (fun u hu => hu.at hp2) ?_)
    refine dw_ ?_
    refine xf3 (v := .slice na s.N.length nc) (fun u hu => by have hu' : u.heap[p]? = some (.cells sc 124) := hu; clear hu; exact rgA) ?_
    refine dw_ ?_
    refine xf2 fun u3 hE3 => ?_
    have hp3 := hE3.at hp2
    have hpl3 := lt_of_heap hp3
    have hs3 := sz_ hE3
    refine krA ?_
    refine kv ?_
    refine ⟨fun u hu => hu.at (hA rfl), ?_⟩
    refine xf2 fun u4 hE4 => ?_
    have hE24 : Ext u2 u4 := Ext.trans (by exact ext_) hE4
    have hX4 := hX2.ext hE24
    have hb4 : u4.heap[u3.heap.size]? = some (.cells #[.int .i64 v, .int .i64 lo, .int .i64 hi] 39) := hE4.at (hA rfl)
    have hI4 : Inp u4 3 (some ⟨u3.heap.size, 0, none⟩) [rowN (v, lo, hi)] := .inr ⟨u3.heap.size, 0, _, _, _, rfl, hb4, fun i x hx j y hj => by
      match i, hx with
      | 0, hx => cases hx; simpa [rowN] using hj⟩
    obtain ⟨a5, c5, u5, hr5, hS5, hC5, hB5⟩ := SlN.app1 (c := 1) hX4.no (by show s.N.length ≤ 1000000; omega) (v, lo, hi) hI4
    dsimp only at hr5
    obtain ⟨hp5, hX6, hC6⟩ := hX4.pushN hS5 hC5 hB5
    refine krA ?_
    refine kv ?_
    refine ⟨fun u hu => hu.at hp5, ?_⟩
    refine dw_ ?_
    refine xf4 fun u6 hE6 => ?_
    have hE56 : Ext u5 u6 := hE6
    have hp6 := hE56.at hp5
    have hpl6 := lt_of_heap hp6
    have hpl5 := lt_of_heap hp5
    dsimp only at hX6 hC6
    have hsz2 := hX2.rc.size
    have hX7 : RsX (ownUp own2 u4 u5 3) (upd u6 p (.cells (sc.setIfInBounds 1 (.slice a5 (s.N.length + 1) c5)) 124)) p _ _ _ _ _ _ := hX6.keep (fun k hk => by
      have hkl := hX6.lt k hk
      rw [upd_size] at hkl
      by_cases e : p = k
      · subst e; rw [upd_same hpl6, upd_same hpl5]
      · rw [upd_other e, upd_other e, hE56.heap k hkl]) (by simp only [upd_size]; exact hE56.size)
    have hb6 : (upd u6 p (.cells (sc.setIfInBounds 1 (.slice a5 (s.N.length + 1) c5)) 124)).heap[w2.heap.size]? = some (.cells #[.int .i64 v, .int .i64 lo, .int .i64 hi] 39) := by
      have hob : own2 p = 1 := hX2.op
      have hne : p ≠ w2.heap.size := fun e => by rw [e, hbo2] at hob; cases hob
      have h4 := hE24.at hbx2
      have hl4 := lt_of_heap h4
      rw [upd_other hne, hE56.heap _ (by have := hC5.size; omega), hC5.heap _ hl4 (fun hb => by have := hX4.on _ hb; omega)]; exact h4
    have hSw7 : Sw own w (ownUp own2 u4 u5 3) (upd u6 p (.cells (sc.setIfInBounds 1 (.slice a5 (s.N.length + 1) c5)) 124)) := by
      have h1 : Sw own2 u4 (ownUp own2 u4 u5 3) u5 := ⟨fun k hk => ownUp_old hk, Chg.foot (hC5.mono fun k _ hk => hX4.on k hk) (by decide)⟩
      have h2 := ((hSw2.ext hE24).trans h1).ext hE56
      refine ⟨h2.ho, h2.ch.upd (fun hl => ?_) _⟩
      have h3 := h2.ho p hl
      have h4 := hX6.op
      unfold foot; omega
    refine krA ?_
    refine ks ?_
    refine xf_nil fun u8 hE8 => ?_
    have hX8 := hX7.ext hE8
    have hb8 := hE8.at hb6
    have hSw8 := hSw7.ext hE8
    clear hX7 hb6 hSw7 hE8 hE6 hE56 hp6 hpl6 hC6 hX6 hp5 hpl5 hr5 hS5 hC5 hB5 hI4 hb4 hX4 hE24 hE4 hE3 hs3 hp3 hpl3 hp2 hpl2 hbx2 hbl2 hX2 hSw2 hbo2
    obtain ⟨g, cur, rfl, hg, hc, _, _, _, _, hsz3, _⟩ := hX8.no.at (k := s.N.length) (v := v) (lo := lo) (hi := hi) (by simp)
    obtain ⟨hX9, hC9⟩ := hX8.setNode hg (k := s.N.length) (by simp) (v, lo, hi)
    have hset : (s.N ++ [(v, lo, hi)]).set s.N.length (v, lo, hi) = s.N ++ [(v, lo, hi)] := by
      rw [List.set_append_right _ _ (Nat.le_refl _), Nat.sub_self]; rfl
    dsimp only at hX9 hc
    rw [hset] at hX9
    have hSw9 := hSw8.trans ⟨fun _ _ => rfl, Chg.foot hC9 (by decide)⟩
    have hp8 := hX8.at_
    have cn8 := hX8.rc.c1
    have hsz8 := hX8.rc.size
    have hpl8 := lt_of_heap hp8
    have hgl8 := lt_of_heap hg
    have hbl8 := lt_of_heap hb8
    have hlN : (s.N ++ [(v, lo, hi)]).length = s.N.length + 1 := by simp
    dsimp only at cn8
    rw [hlN] at cn8 hc
    have hk3 : (s.N.length : Int) < ((s.N.length + 1 : Nat) : Int) := by omega
    have hk4 : (s.N.length : Int) < (s.N.length : Int) + 1 := by omega
    clear hX8 hC9 hset hadd
    refine w_ fun d => ?_
    exact ⟨rfl, _, ⟨_, _, _, _, _, hX9.ext ext_⟩, hSw9.ext ext_⟩
  · rw [hadd, if_neg hkn]
    have hkb : (k == (s.N.length : Int)) = false := by simpa using hkn
    have hkt : k.toNat < s.N.length := by omega
    obtain ⟨z, hz⟩ : ∃ z, s.N[k.toNat]? = some z := ⟨s.N[k.toNat], List.getElem?_eq_getElem hkt⟩
    obtain ⟨g, cur, rfl, hg, hc, _, _, _, _, hsz3, _⟩ := hX2.no.at (v := z.1) (lo := z.2.1) (hi := z.2.2) hz
    have hgl := lt_of_heap hg
    obtain ⟨hX3, hC3⟩ := hX2.setNode hg hkt (v, lo, hi)
    have hSw3 := hSw2.trans ⟨fun _ _ => rfl, Chg.foot hC3 (by decide)⟩
    have hkl3 : k < s.N.length := by omega
    dsimp only at hc
    clear hX2 hC3 hSw2 hz hadd hkn
    refine w_ fun d => ?_
    exact ⟨rfl, own2, ⟨_, _, _, _, _, hX3.ext ext_⟩, hSw3.ext ext_⟩
end
end Go.Proofs.Ytpeindhocndmnaa

namespace Go.Proofs.Ytpeindhocndmnaa
open Go Go.Bx
set_option linter.unusedSimpArgs false
set_option linter.unusedVariables false
set_option maxRecDepth 100000
set_option maxHeartbeats 4000000
attribute [local irreducible] X XO XE XF XD XW thenX inX retX kN CallsR
section
variable {own own1 own2 : Nat → Nat} {w w' w1 w2 : World} {p : Nat} {s : Md} {n v x y lo hi : Int} {but : List Int}
theorem rsMkP_calls (h : RsI own w p s) (W : s.WF) (hlo : lo ≤ 9223372036854775807) (hhi : hi ≤ 9223372036854775807) :
    CallsR Try.prog 89 #[.pointer (some ⟨p, 0, none⟩), .int .i64 v, .int .i64 lo, .int .i64 hi] w fun r w' => r = .tuple #[.int .i64 (s.mk' [] v lo hi).1.1, .int .i64 (s.mk' [] v lo hi).1.2] ∧ TrS own w p (s.mk' [] v lo hi).2 w' := by
  have c1 := fun u (hu : Ext w u) => rsMk_calls (v := v) (but := []) (aB := none) (cB := 0) (h.ext hu) W (.inl rfl) (by simp) hlo hhi
  rw [List.length_nil] at c1
  refine en4 Try.func89 Try.results89 mixed [] ?_
  intro e0 h0 h1 h2 h3
  refine w_ fun d => ?_
  refine (c1 _ ext_).mono ?_
  rintro _ w1 ⟨rfl, own1, h1', hSw⟩
  refine w_ fun d => ?_
  exact ⟨rfl, own1, h1', ⟨hSw.ho, hSw.ch⟩⟩
def pB (s : Md) (n : Int) (k : Nat) : Bool := (decide ((s.nd ((k : Int) + 2)).2.1 = n) || decide ((s.nd ((k : Int) + 2)).2.2 = n)) && s.has ((k : Int) + 2)
theorem pointed_yes {k : Nat} (hk : k < s.N.length) (h : pB s n k = true) (W : s.WF) : s.pointed n = true := by
  unfold pB at h
  rw [Bool.and_eq_true] at h
  unfold Md.pointed
  exact List.any_eq_true.2 ⟨(k : Int) + 2, W.mem_all.2 h.2, h.1⟩
theorem pointed_not (W : s.WF) (h : ∀ k, k < s.N.length → pB s n k = false) : s.pointed n = false := by
  unfold Md.pointed
  rw [List.any_eq_false]
  intro m hm
  have hh := W.mem_all.1 hm
  have hl := W.lt hh
  have := h (m - 2).toNat (by omega)
  unfold pB at this
  rw [show (((m - 2).toNat : Nat) : Int) + 2 = m by omega, hh, Bool.and_true] at this
  rw [this]; simp
theorem rsFree_calls (h : RsI own w p s) (W : s.WF) (hn : n ≤ 9223372036854775807) :
    CallsR Try.prog 87 #[.pointer (some ⟨p, 0, none⟩), .int .i64 n] w fun r w' => r = .int .i64 (s.free n).1 ∧ TrS own w p (s.free n).2 w' := by
  have c1 := rsHas_calls h W n hn
  have hN := wf_N W
  unfold Md.free
  cases hh : s.has n
  · rw [hh] at c1
    rw [if_pos (.inl rfl)]
    clear W hh
    refine en2 Try.func87 Try.results87 mixed [] ?_
    intro e0 h0 h1
    refine w_ fun d => ?_
    refine qq c1 fun w1 hE1 hs1 => ?_
    refine w_ fun d => ?_
    exact ⟨rfl, TrS.of_ext h ext_⟩
  rw [hh] at c1
  have hl := W.lt hh
  have hq := fun u (hu : Ext w u) (k : Nat) (hk : k < 30000) => rsHas_calls (h.ext hu) W ((k : Int) + 2) (by omega)
  refine en2 Try.func87 Try.results87 mixed [] ?_
  intro e0 h0 h1
  refine w_ fun d => ?_
  refine qq c1 fun w1 hE1 hs1 => ?_
  refine w_ fun d => ?_
  refine lo_ (fun _ e w' => ∃ k : Nat, k ≤ s.N.length ∧ e 5 = .int .i64 ((k : Int) + 2) ∧ Box (∀ j, j < k → pB s n j = false) ∧ Ext w w') (fun e _ => s.N.length + 2 - nat (e 5)) ?_ ?_
  · exact ⟨0, by omega, eA rfl, ⟨fun j hj => by omega⟩, ext_⟩
  rintro e u hf ⟨k, hk, h5, ⟨hno⟩, hE⟩
  obtain ⟨pa, na, nc, sc, oc, hX⟩ := h.ext hE
  have hp := hX.at_
  have cn := hX.rc.c1
  have ca := hX.rc.c0
  have hsz := hX.rc.size
  have hpl := lt_of_heap hp
  by_cases hlt : k < s.N.length
  · obtain ⟨z, hz⟩ : ∃ z, s.N[k]? = some z := ⟨s.N[k], List.getElem?_eq_getElem hlt⟩
    have hnd : s.nd ((k : Int) + 2) = z := by unfold Md.nd; rw [show ((k : Int) + 2 - 2).toNat = k by omega, List.getD, hz]; rfl
    obtain ⟨a, b, c⟩ := z
    have q1 := hq _ hE k (by omega)
    have hpb : pB s n k = ((b == n || c == n) && s.has ((k : Int) + 2)) := by unfold pB; rw [hnd]; rfl
    have hno1 : pB s n k = false → Box (∀ j, j < k + 1 → pB s n j = false) := fun hb => ⟨fun j hj => by
      by_cases e2 : j = k
      · subst e2; exact hb
      · exact hno j (by omega)⟩
    obtain ⟨g, cur, rfl, hg, hc, _, x0, x1, x2, hsz3, hex⟩ := hX.no.at hz
    have hgl := lt_of_heap hg
    have e1 : (k : Int) + 2 + 1 = ((k + 1 : Nat) : Int) + 2 := by omega
    have e2 : (k : Int) + 2 - 2 = k := by omega
    have hn0 := fun hyes => pointed_yes (s := s) (n := n) hlt hyes W
    cases eb : (b == n)
    · cases ec : (c == n)
      · have hno2 := hno1 (by rw [hpb, eb, ec]; rfl)
        clear hno hno1 hpb hX hq W hz hnd hn0 hl
        refine w_ fun d => ?_
        exact ⟨⟨k + 1, by omega, by rw [← e1]; exact eA rfl, hno2, ext_⟩, mA⟩
      · cases hhk : s.has ((k : Int) + 2)
        · rw [hhk] at q1
          have hno2 := hno1 (by rw [hpb, hhk]; simp)
          clear hno hno1 hpb hX hq W hz hnd hn0 hl hhk
          refine w_ fun d => ?_
          refine qq q1 fun u2 hE2 hs2 => ?_
          refine w_ fun d => ?_
          exact ⟨⟨k + 1, by omega, by rw [← e1]; exact eA rfl, hno2, ext_⟩, mA⟩
        · rw [hhk] at q1
          have hpt := hn0 (by rw [hpb, eb, ec, hhk]; rfl)
          rw [if_pos (.inr hpt)]
          clear hno hno1 hpb hX hq W hz hnd hn0 hl hhk hpt
          refine w_ fun d => ?_
          refine qq q1 fun u2 hE2 hs2 => ?_
          refine w_ fun d => ?_
          exact ⟨rfl, TrS.of_ext h ext_⟩
    · cases hhk : s.has ((k : Int) + 2)
      · rw [hhk] at q1
        have hno2 := hno1 (by rw [hpb, hhk]; simp)
        clear hno hno1 hpb hX hq W hz hnd hn0 hl hhk
        refine w_ fun d => ?_
        refine qq q1 fun u2 hE2 hs2 => ?_
        refine w_ fun d => ?_
        exact ⟨⟨k + 1, by omega, by rw [← e1]; exact eA rfl, hno2, ext_⟩, mA⟩
      · rw [hhk] at q1
        have hpt := hn0 (by rw [hpb, eb, hhk]; rfl)
        rw [if_pos (.inr hpt)]
        clear hno hno1 hpb hX hq W hz hnd hn0 hl hhk hpt
        refine w_ fun d => ?_
        refine qq q1 fun u2 hE2 hs2 => ?_
        refine w_ fun d => ?_
        exact ⟨rfl, TrS.of_ext h ext_⟩
  obtain rfl : k = s.N.length := by omega
  have hpt := pointed_not W hno
  rw [if_neg (by rw [hpt]; simp)]
  have gv := raGive_calls hX.ar W.ar (n - 2)
  rw [Md.has_ar hh] at gv
  simp only [↓reduceIte] at gv
  have hl0 : 0 ≤ n - 2 := by omega
  have hn6 : n ≤ 1000000 := by omega
  clear hno hq hpt hh
  refine w_ fun d => ?_
  refine gv.mono ?_
  rintro _ u2 ⟨⟨rfl, hA⟩, hC⟩
  have hX2 := hX.setAr hA hC
  have hSw2 : Sw own w (ownUp own u u2 2) u2 := (Sw.of_ext hE).trans ⟨fun k hk => ownUp_old hk, Chg.foot hC (by decide)⟩
  clear gv hX hA hC
  refine w_ fun d => ?_
  exact ⟨rfl, _, ⟨_, _, _, _, _, hX2⟩, hSw2⟩
theorem inp_drop {w : World} {a : Option Addr} {l : List Int} {i cap : Nat} (h : InI w a l) (hc : l.length ≤ cap) : InI w (cutAddr a 1 i cap) (l.drop i) := by
  by_cases hi : l.length ≤ i
  · rw [List.drop_of_length_le hi]; exact .inl rfl
  · rcases h with h | ⟨b, o, c, E, fz, rfl, h2, h3⟩
    · rw [List.map_eq_nil_iff.1 (List.map_eq_nil_iff.1 h)]; exact .inl (by simp)
    · refine .inr ⟨b, o + i, c, E, fz, ?_, h2, fun j x hx k u hk => ?_⟩
      · unfold cutAddr
        rw [if_neg (by omega), Option.map_some, add_none, Nat.mul_one]
      · have hx' : (one1 (ints l))[i + j]? = some x := by
          rw [List.getElem?_map, List.getElem?_map] at hx ⊢
          rw [List.getElem?_drop] at hx; exact hx
        have := h3 (i + j) x hx' k u hk
        rw [← this]; congr 1; omega
end
end Go.Proofs.Ytpeindhocndmnaa

namespace Go.Proofs.Ytpeindhocndmnaa
open Go Go.Bx
set_option linter.unusedSimpArgs false
set_option linter.unusedVariables false
set_option maxRecDepth 100000
set_option maxHeartbeats 4000000
attribute [local irreducible] X XO XE XF XD XW thenX inX retX kN CallsR
section
variable {own own1 own2 : Nat → Nat} {w w' w1 w2 : World} {p : Nat} {s s0 s1 : Md} {n v x y lo hi : Int} {but : List Int}
theorem rsSwap_calls (h : RsI own w p s) (G : s.Good []) (l : Int) :
    CallsR Try.prog 57 #[.pointer (some ⟨p, 0, none⟩), .int .i64 l] w fun r w' => r = .int .i64 (s.swap l).1 ∧ TrS own w p (s.swap l).2 w' := by
  have W := G.wf
  by_cases hl : 0 ≤ l ∧ l < 7
  rotate_left
  · have e : s.swap l = (1, s) := by unfold Md.swap; rw [if_pos (by omega)]
    rw [e]
    clear G W e
    by_cases h0' : 0 ≤ l
    · have h1' : ¬ l ≤ 6 := fun h => hl ⟨h0', by omega⟩
      clear hl
      refine en2 Try.func57 Try.results57 mixed [(1020, [3, 7, 10]), (21, [15]), (22, [15])] ?_
      intro e0 h0 h1
      refine w_ fun d => ?_
      exact ⟨rfl, TrS.of_ext h ext_⟩
    · clear hl
      refine en2 Try.func57 Try.results57 mixed [(1020, [3, 7, 10]), (21, [15]), (22, [15])] ?_
      intro e0 h0 h1
      refine w_ fun d => ?_
      exact ⟨rfl, TrS.of_ext h ext_⟩
  obtain ⟨k, rfl⟩ := Int.eq_ofNat_of_zero_le hl.1
  have hk : k < 7 := by omega
  have hol := W.ord.len
  obtain ⟨x, hx⟩ : ∃ x, s.ord[k]? = some x := ⟨s.ord[k], List.getElem?_eq_getElem (by omega)⟩
  obtain ⟨y, hy⟩ : ∃ y, s.ord[k + 1]? = some y := ⟨s.ord[k + 1], List.getElem?_eq_getElem (by omega)⟩
  have gx : s.ord.getD k 0 = x := by rw [List.getD, hx]; rfl
  have gy : s.ord.getD (k + 1) 0 = y := by rw [List.getD, hy]; rfl
  have L : LvXY s k x y := ⟨hk, hx, hy⟩
  have hN := wf_N W
  have hal : s.all.length ≤ s.N.length := allTo_len (s := s) (k := s.N.length)
  have hchl : (s.change x y).length ≤ 20000 := by
    have h1 := List.length_filter_le (fun n => decide ((s.nd n).1 = x) && (s.of (s.nd n).2.1 y || s.of (s.nd n).2.2 y)) s.all
    unfold Md.change; omega
  have hm0 := W.ar.many_le
  have hmo := W.ar.most
  have hroom : s.room = s.a.most - s.a.many := rfl
  have al := fun u (hu : Ext w u) => rsAll_calls (h.ext hu) W
  have rm := fun u (hu : Ext w u) => rsRoom_calls (h.ext hu) W
  have hR := h
  obtain ⟨pa, na, nc, sc, oc, hX⟩ := id hR
  have hp := hX.at_
  have hsz := hX.rc.size
  have ox := hX.rc.at_ord hX.oc hx
  have oy := hX.rc.at_ord hX.oc hy
  have hpl := lt_of_heap hp
  have hk1 : ((k : Int) + 1).toNat = k + 1 := by omega
  have hk6 : (k : Int) ≤ 6 := by omega
  have e : s.swap k = if s.room < 2 * ((s.change x y).length : Int) then (2, s) else (0, Md.swapGo x y (s.ordS k) (s.change x y)) := by
    unfold Md.swap
    rw [if_neg (by omega), show ((k : Nat) : Int).toNat = k by omega, gx, gy]
  rw [e]
  clear e gx gy hx hy hX
  refine en2 Try.func57 Try.results57 mixed [(1020, [3, 7, 10]), (21, [15]), (22, [15])] ?_
  intro e0 h0 h1
  refine w_ fun d => ?_
  refine (al _ ext_).mono ?_
  rintro _ w2 ⟨aA, cA, rfl, hSA, hnA, hEA⟩
  have hE : Ext w w2 := Ext.trans (by exact ext_) hEA
  have hszw := hE.size
  have hI := h.ext hE
  clear hEA hnA al hp ox oy
  refine w_ fun d => ?_
  refine lo_ (fun _ e w' => ∃ (i : Nat) (a' : Option Addr) (cap' : Nat) (m : List Int), i ≤ s.all.length ∧ e 9 = .int .i64 i ∧ e 7 = .slice a' m.length cap' ∧ SlC w' 3 a' cap' (ints m) ∧ (∀ g, blk a' = some g → w2.heap.size ≤ g) ∧ Box (m = (s.all.take i).filter (chgB s x y)) ∧ Ext w2 w') (fun e _ => s.all.length - nat (e 9)) ?_ ?_
  · exact ⟨0, none, 0, [], by omega, eA rfl, eA rfl, SlC.nil _ _, (fun g h => by cases h), ⟨rfl⟩, ext_⟩
  rintro e w1 hf ⟨i, a', cap', m, hi, h9, h7, hS, hn, ⟨hm⟩, hE2⟩
  have hs1 := sz_ hE2
  have hml : m.length ≤ i := by rw [hm]; exact Nat.le_trans (List.length_filter_le _ _) (by rw [List.length_take]; omega)
  by_cases hlt : i < s.all.length
  · obtain ⟨n, hn0⟩ : ∃ n, s.all[i]? = some n := ⟨s.all[i], List.getElem?_eq_getElem hlt⟩
    have hsc := take_filter (f := chgB s x y) hn0
    have hhas := W.mem_all.1 (List.mem_of_getElem? hn0)
    have hx := W.get hhas
    have hl := W.lt hhas
    have ok := G.node n hhas (by simp)
    obtain ⟨z, hz⟩ : ∃ z, s.nd n = z := ⟨_, rfl⟩
    have hcb : chgB s x y n = (decide (z.1 = x) && (s.of z.2.1 y || s.of z.2.2 y)) := by unfold chgB; rw [hz]
    have okl := (Md.below_lt W ok.lo).1
    have okh := (Md.below_lt W ok.hi).1
    rw [hz] at hx okl okh
    obtain ⟨v, lo, hi'⟩ := z
    dsimp only at hcb okl okh
    have il := rsOf_calls (hI.ext hE2) W lo y (by omega)
    have ih := rsOf_calls (hI.ext hE2) W hi' y (by omega)
    obtain ⟨gA, curA, rfl, hgA, hcA, _, hatA⟩ := (hSA.ext hE2).at (i := i) (v := .int .i64 n) (by rw [List.getElem?_map, hn0]; rfl)
    rw [List.length_map] at hcA
    obtain ⟨pa, na, nc, sc, oc, hX⟩ := hI.ext hE2
    obtain ⟨g, cur, rfl, hg, hc, hlt2, x0, x1, x2, hsz3, hex⟩ := hX.no.at hx
    have hp := hX.at_
    have c2 := hX.rc.c1
    have hscs := hX.rc.size
    have hpl := lt_of_heap hp
    have hgl := lt_of_heap hg
    have hglA := lt_of_heap hgA
    have hl1 := hl.2
    have hl0 : 0 ≤ n - 2 := by omega
    have hN' : n ≤ 1000000 := by omega
    have hltA : (i : Int) < s.all.length := by omega
    have grow : ∀ u, Ext w1 u → ∃ a3 c3 w3, apR Try.prog 34 (.slice a' m.length cap') (.slice (some ⟨u.heap.size, 0, none⟩) 1 1) (u.alloc (.cells #[.int .i64 n] 3)) = .ok (.slice a3 (m.length + 1) c3) w3 ∧ SlC w3 3 a3 c3 (ints (m ++ [n])) ∧ (∀ g, blk a3 = some g → w2.heap.size ≤ g) ∧ Ext w2 w3 := fun u hu => by
      obtain ⟨a3, c3, w3, hr, hS3, hC3, hs3, hB3⟩ := pushI (hS.ext hu) (by omega) n
      refine ⟨a3, c3, w3, hr, hS3, fun g hg => ?_, hC3.toExt (hE2.trans hu) fun g hg hb => by have := hn g hb; omega⟩
      have := (hE2.trans hu).size
      rcases hB3 g hg with h | ⟨h, _⟩
      · exact hn g h
      · omega
    have e' : decide (v = x) = (v == x) := rfl
    rw [e'] at hcb
    clear hX hx hl ok okl okh hz hn0 W G h hhas hSA hE e' hI hR
    cases hl' : s.of lo y
    · rw [hl'] at il hcb
      cases hh' : s.of hi' y
      · rw [hh'] at ih hcb
        cases hv : (v == x)
        · rw [hv] at hcb
          have hi2 : Box (m = (s.all.take (i + 1)).filter (chgB s x y)) := ⟨by rw [hsc, hcb, hm]; rfl⟩
          clear hm hsc hcb hl' hh' grow
          refine w_ fun d => ?_
          intro w4 hE4 hs4
          have ih4 := ih.at hE4
          refine w_ fun d => ?_
          intro w5 hE5 hs5
          have hE15 := hE4.trans hE5
          have hp5 := hE15.at hp
          have hg5 := hE15.at hg
          have hgA5 := hE15.at hgA
          have hS5 := hS.ext hE15
          have hE25 := hE2.trans hE15
          refine w_ fun d => ?_
          exact ⟨⟨i + 1, a', cap', m, by omega, eA rfl, eA rfl, hS5.ext ext_, hn, hi2, ext_⟩, mA⟩
        · rw [hv] at hcb
          have hi2 : Box (m = (s.all.take (i + 1)).filter (chgB s x y)) := ⟨by rw [hsc, hcb, hm]; rfl⟩
          clear hm hsc hcb hl' hh' grow
          refine w_ fun d => ?_
          intro w4 hE4 hs4
          have ih4 := ih.at hE4
          refine w_ fun d => ?_
          intro w5 hE5 hs5
          have hE15 := hE4.trans hE5
          have hp5 := hE15.at hp
          have hg5 := hE15.at hg
          have hgA5 := hE15.at hgA
          have hS5 := hS.ext hE15
          have hE25 := hE2.trans hE15
          refine w_ fun d => ?_
          exact ⟨⟨i + 1, a', cap', m, by omega, eA rfl, eA rfl, hS5.ext ext_, hn, hi2, ext_⟩, mA⟩
      · rw [hh'] at ih hcb
        cases hv : (v == x)
        · rw [hv] at hcb
          have hi2 : Box (m = (s.all.take (i + 1)).filter (chgB s x y)) := ⟨by rw [hsc, hcb, hm]; rfl⟩
          clear hm hsc hcb hl' hh' grow
          refine w_ fun d => ?_
          intro w4 hE4 hs4
          have ih4 := ih.at hE4
          refine w_ fun d => ?_
          intro w5 hE5 hs5
          have hE15 := hE4.trans hE5
          have hp5 := hE15.at hp
          have hg5 := hE15.at hg
          have hgA5 := hE15.at hgA
          have hS5 := hS.ext hE15
          have hE25 := hE2.trans hE15
          refine w_ fun d => ?_
          exact ⟨⟨i + 1, a', cap', m, by omega, eA rfl, eA rfl, hS5.ext ext_, hn, hi2, ext_⟩, mA⟩
        · rw [hv] at hcb
          have hi2 : Box (m ++ [n] = (s.all.take (i + 1)).filter (chgB s x y)) := ⟨by rw [hsc, hcb, hm]; rfl⟩
          clear hm hsc hcb hl' hh'
          refine w_ fun d => ?_
          intro w4 hE4 hs4
          have ih4 := ih.at hE4
          refine w_ fun d => ?_
          intro w5 hE5 hs5
          have hE15 := hE4.trans hE5
          have hp5 := hE15.at hp
          have hg5 := hE15.at hg
          have hgA5 := hE15.at hgA
          refine w_ fun d => ?_
          obtain ⟨a3, c3, w3, hr, hS3, hn3, hE3⟩ := grow (dr w5 d) (hE15.dr d)
          clear grow
          simp only [alloc_dr, dr_heap] at hr
          refine w_ fun d => ?_
          exact ⟨⟨i + 1, a3, c3, m ++ [n], by omega, eA rfl, by rw [List.length_append]; exact eA rfl, hS3, hn3, hi2, hE3⟩, mA⟩
    · rw [hl'] at il hcb
      cases hh' : s.of hi' y
      · rw [hh'] at ih hcb
        cases hv : (v == x)
        · rw [hv] at hcb
          have hi2 : Box (m = (s.all.take (i + 1)).filter (chgB s x y)) := ⟨by rw [hsc, hcb, hm]; rfl⟩
          clear hm hsc hcb hl' hh' grow
          refine w_ fun d => ?_
          intro w4 hE4 hs4
          have ih4 := ih.at hE4
          refine w_ fun d => ?_
          intro w5 hE5 hs5
          have hE15 := hE4.trans hE5
          have hp5 := hE15.at hp
          have hg5 := hE15.at hg
          have hgA5 := hE15.at hgA
          have hS5 := hS.ext hE15
          have hE25 := hE2.trans hE15
          refine w_ fun d => ?_
          exact ⟨⟨i + 1, a', cap', m, by omega, eA rfl, eA rfl, hS5.ext ext_, hn, hi2, ext_⟩, mA⟩
        · rw [hv] at hcb
          have hi2 : Box (m ++ [n] = (s.all.take (i + 1)).filter (chgB s x y)) := ⟨by rw [hsc, hcb, hm]; rfl⟩
          clear hm hsc hcb hl' hh'
          refine w_ fun d => ?_
          intro w4 hE4 hs4
          have ih4 := ih.at hE4
          refine w_ fun d => ?_
          intro w5 hE5 hs5
          have hE15 := hE4.trans hE5
          have hp5 := hE15.at hp
          have hg5 := hE15.at hg
          have hgA5 := hE15.at hgA
          refine w_ fun d => ?_
          obtain ⟨a3, c3, w3, hr, hS3, hn3, hE3⟩ := grow (dr w5 d) (hE15.dr d)
          clear grow
          simp only [alloc_dr, dr_heap] at hr
          refine w_ fun d => ?_
          exact ⟨⟨i + 1, a3, c3, m ++ [n], by omega, eA rfl, by rw [List.length_append]; exact eA rfl, hS3, hn3, hi2, hE3⟩, mA⟩
      · rw [hh'] at ih hcb
        cases hv : (v == x)
        · rw [hv] at hcb
          have hi2 : Box (m = (s.all.take (i + 1)).filter (chgB s x y)) := ⟨by rw [hsc, hcb, hm]; rfl⟩
          clear hm hsc hcb hl' hh' grow
          refine w_ fun d => ?_
          intro w4 hE4 hs4
          have ih4 := ih.at hE4
          refine w_ fun d => ?_
          intro w5 hE5 hs5
          have hE15 := hE4.trans hE5
          have hp5 := hE15.at hp
          have hg5 := hE15.at hg
          have hgA5 := hE15.at hgA
          have hS5 := hS.ext hE15
          have hE25 := hE2.trans hE15
          refine w_ fun d => ?_
          exact ⟨⟨i + 1, a', cap', m, by omega, eA rfl, eA rfl, hS5.ext ext_, hn, hi2, ext_⟩, mA⟩
        · rw [hv] at hcb
          have hi2 : Box (m ++ [n] = (s.all.take (i + 1)).filter (chgB s x y)) := ⟨by rw [hsc, hcb, hm]; rfl⟩
          clear hm hsc hcb hl' hh'
          refine w_ fun d => ?_
          intro w4 hE4 hs4
          have ih4 := ih.at hE4
          refine w_ fun d => ?_
          intro w5 hE5 hs5
          have hE15 := hE4.trans hE5
          have hp5 := hE15.at hp
          have hg5 := hE15.at hg
          have hgA5 := hE15.at hgA
          refine w_ fun d => ?_
          obtain ⟨a3, c3, w3, hr, hS3, hn3, hE3⟩ := grow (dr w5 d) (hE15.dr d)
          clear grow
          simp only [alloc_dr, dr_heap] at hr
          refine w_ fun d => ?_
          exact ⟨⟨i + 1, a3, c3, m ++ [n], by omega, eA rfl, by rw [List.length_append]; exact eA rfl, hS3, hn3, hi2, hE3⟩, mA⟩
  · obtain rfl : i = s.all.length := by omega
    rw [List.take_length] at hm
    have hEw1 := hE.trans hE2
    have rm1 := rm _ hEw1
    have hI1 := hI.ext hE2
    have hCH : m = s.change x y := hm
    have hC0 : ∀ g, blk a' = some g → own g = 0 := fun g hg => by
      have := hn g hg
      cases ho : own g with
      | zero => rfl
      | succ q => have := h.lt g (by omega); omega
    clear hm rm hSA hI hn hE
    rw [← hCH] at hchl ⊢
    by_cases hfull : s.room < 2 * (m.length : Int)
    · rw [if_pos hfull]
      clear W G L hCH hR hml
      refine w_ fun d => ?_
      refine qq rm1 fun w3 hE3 hs3 => ?_
      refine w_ fun d => ?_
      exact ⟨rfl, TrS.of_ext h ext_⟩
    rw [if_neg hfull]
    have I0 := SwI.start G L (by rw [← hCH]; omega)
    rw [← hCH] at I0
    have hmem : ∀ n ∈ m, s.has n = true := fun n hn => by rw [hCH] at hn; exact (W.mem_change.1 hn).1
    obtain ⟨oc2, hoc2⟩ := ordC (ord := swp s.ord k) (by rw [swp_length]; exact hol)
    have hsw := refSwap_calls s.ord hol k
    rw [hoc2.agg] at hsw
    have hoz := hoc2.size
    have ho8 := hoc2.len8
    have hoce := hoc2.cell
    obtain ⟨pa, na, nc, sc, oc, hX⟩ := hI1
    have hp := hX.at_
    have hsz := hX.rc.size
    have co := hX.rc.co
    have hag := hX.oc.agg
    rw [hag] at hsw
    have hX2 := fun u' (hE : Ext w1 u') => (hX.ext hE).setOrd hoc2
    have stn := fun u' : World => stN_ord2 (p := p) (E := 124) (w := u') hsz hoz
    have hpl := lt_of_heap hp
    have hfl : ¬ s.room < 2 * (m.length : Int) := hfull
    have hfd : decide (s.room < 2 * (m.length : Int)) = false := decide_eq_false hfull
    clear hag hml hroom hfull hCH
    refine w_ fun d => ?_
    refine qq rm1 fun w3 hE3 hs3 => ?_
    refine w_ fun d => ?_
    refine qq hsw.quiet fun w4 hE4 hs4 => ?_
    have hE14 : Ext w1 w4 := hE3.trans hE4
    have hp4 := hE14.at hp
    refine w_ fun d => ?_
    refine at_w fun u4 hu4 => ?_
    have hX4 := hX2 w4 hE14
    rw [← hu4] at hX4
    have hI4 : RsI own u4 p (s.ordS k) := ⟨_, _, _, _, _, hX4⟩
    have hop : own p = 1 := h.op
    have hSww : Sw own w own u4 := by
      have h1 : Sw own w own w4 := Sw.of_ext (hEw1.trans hE14)
      refine ⟨h1.ho, ?_⟩
      rw [hu4]
      exact h1.ch.upd (fun _ => by unfold foot; omega) _
    have hSC4 : SlC u4 3 a' cap' (ints m) := by
      rw [hu4]
      exact (hS.ext hE14).upd fun g hg e => by have := hC0 g hg; rw [e, hop] at this; cases this
    obtain ⟨fin, hfin⟩ : ∃ z, Md.swapGo x y (s.ordS k) m = z := ⟨_, rfl⟩
    rw [hfin]
    have hcap := hSC4.le
    rw [List.length_map] at hcap
    obtain ⟨rx, ry, nxy⟩ := L.rng G
    clear hu4 hX4 hX2 hX hp4 hp hE14 hE4 hE3 hs4 hs3 hS stn hsz co hpl hsw hfl hfd rm1 hE2 hEw1 hR hs1
    clear w4 w3
    refine lo_ (fun _ e u => ∃ (i : Nat) (own2 : Nat → Nat) (si : Md), i ≤ m.length ∧ e 12 = .int .i64 i ∧ RsI own2 u p si ∧ Sw own u4 own2 u ∧ Box (SwI s k x y si (m.drop i) ∧ Md.swapGo x y si (m.drop i) = fin)) (fun e _ => m.length - nat (e 12)) ?_ ?_
    · exact ⟨0, own, s.ordS k, by omega, eA rfl, hI4, Sw.of_ext ext_, ⟨by rw [List.drop_zero]; exact ⟨I0, hfin⟩⟩⟩
    rintro e u hf ⟨i, own2, si, hi, h12, hIu, hSw, ⟨I, hgo⟩⟩
    by_cases hlt : i < m.length
    · obtain ⟨n, hn⟩ : ∃ n, m[i]? = some n := ⟨m[i], List.getElem?_eq_getElem hlt⟩
      have hdr : m.drop i = n :: m.drop (i + 1) := by
        rw [List.drop_eq_getElem_cons hlt]
        rw [List.getElem?_eq_getElem hlt] at hn
        rw [Option.some.inj hn]
      have hdl : (m.drop i).length = m.length - i := List.length_drop
      have hbox0 := I
      rw [hdr] at I hgo
      have S := I.step G L
      obtain ⟨hn0, hvx, _, hnd'⟩ := I.rem n (by simp)
      have ok := G.node n hn0 (by simp)
      obtain ⟨z, hz⟩ : ∃ z, s.nd n = z := ⟨_, rfl⟩
      have bl := (Md.below_lt W ok.lo).1
      have bh := (Md.below_lt W ok.hi).1
      rw [hz] at hvx bl bh hnd'
      have okl := ok.lo
      have okh := ok.hi
      rw [hz] at okl okh
      obtain ⟨v, Lo, Hi⟩ := z
      dsimp only at hvx bl bh okl okh
      subst hvx
      have sL := fun b => I.side G L okl b
      have sH := fun b => I.side G L okh b
      have Wi := I.good.wf
      have a1 := (Md.below_lt Wi (sL false).1).1
      have a2 := (Md.below_lt Wi (sH false).1).1
      have a3 := (Md.below_lt Wi (sL true).1).1
      have a4 := (Md.below_lt Wi (sH true).1).1
      have e3 := (Md.side_le (y := y) S.l1 (sL true).2.2.1 true).1
      have e4 := (Md.side_le (y := y) S.l1 (sH true).2.2.1 true).1
      have hni := I.good.sub n (by simp)
      have hxi := Wi.get hni
      have hli := Wi.lt hni
      rw [hnd'] at hxi
      have q1 : si.mk' (m.drop i) v (si.side Lo y false) (si.side Hi y false) = si.step1 (n :: m.drop (i + 1)) v y n := by rw [hdr]; unfold Md.step1; rw [hnd']
      have q2 : (si.step1 (n :: m.drop (i + 1)) v y n).2.mk' (m.drop i) v ((si.step1 (n :: m.drop (i + 1)) v y n).2.side Lo y true) ((si.step1 (n :: m.drop (i + 1)) v y n).2.side Hi y true) = si.step2 (n :: m.drop (i + 1)) v y n := by
        rw [hdr]; unfold Md.step2; rw [hnd']
      have sd1 := fun u' (hE : Ext u u') => rsSide_calls (hIu.ext hE) Wi Lo y 0 (by omega)
      have sd2 := fun u' (hE : Ext u u') => rsSide_calls (hIu.ext hE) Wi Hi y 0 (by omega)
      have sd3 := fun u' o (hh : RsI o u' p (si.step1 (n :: m.drop (i + 1)) v y n).2) => rsSide_calls hh S.g1.wf Lo y 1 (by omega)
      have sd4 := fun u' o (hh : RsI o u' p (si.step1 (n :: m.drop (i + 1)) v y n).2) => rsSide_calls hh S.g1.wf Hi y 1 (by omega)
      rw [show ((0 : Int) != 0) = false from rfl] at sd1 sd2
      rw [show ((1 : Int) != 0) = true from rfl] at sd3 sd4
      have hInS : ∀ u', SlC u' 3 a' cap' (ints m) → InI u' (cutAddr a' 1 i cap') (m.drop i) := fun u' hh => inp_drop hh.inp hcap
      have mk1 := fun u' (hE : Ext u u') (hh : SlC u' 3 a' cap' (ints m)) => rsMk_calls (v := v) (cB := cap' - i) (hIu.ext hE) Wi (hInS u' hh) (by omega) (lo := si.side Lo y false) (hi := si.side Hi y false) (by omega) (by omega)
      have mk2 := fun u' o (h1 : RsI o u' p (si.step1 (n :: m.drop (i + 1)) v y n).2) (hh : SlC u' 3 a' cap' (ints m)) => rsMk_calls (v := v) (cB := cap' - i) h1 S.g1.wf (hInS u' hh) (by omega) (lo := (si.step1 (n :: m.drop (i + 1)) v y n).2.side Lo y true) (hi := (si.step1 (n :: m.drop (i + 1)) v y n).2.side Hi y true) (by omega) (by omega)
      rw [q1, hdl] at mk1
      rw [q2, hdl] at mk2
      have hgo' : Md.swapGo v y (si.swapStep (n :: m.drop (i + 1)) v y n) (m.drop (i + 1)) = fin := hgo
      have hbox : Box (SwI s k v y (si.swapStep (n :: m.drop (i + 1)) v y n) (m.drop (i + 1)) ∧ Md.swapGo v y (si.swapStep (n :: m.drop (i + 1)) v y n) (m.drop (i + 1)) = fin) := ⟨S.next, hgo'⟩
      have hst : si.swapStep (n :: m.drop (i + 1)) v y n = (si.step2 (n :: m.drop (i + 1)) v y n).2.lay n (y, (si.step1 (n :: m.drop (i + 1)) v y n).1.1, (si.step2 (n :: m.drop (i + 1)) v y n).1.1) := rfl
      have S2 := S.g2
      generalize si.swapStep (n :: m.drop (i + 1)) v y n = sn at hst hbox hgo'
      generalize si.step2 (n :: m.drop (i + 1)) v y n = r2 at mk2 hst S2
      generalize si.step1 (n :: m.drop (i + 1)) v y n = r1 at mk1 mk2 hst sd3 sd4
      obtain ⟨⟨o1, z1⟩, t1⟩ := r1
      obtain ⟨⟨o2, z2⟩, t2⟩ := r2
      dsimp only at mk1 mk2 hst S2 sd3 sd4
      have W2 := S2.wf
      have hhas2 : t2.has n = true := S2.sub n (by simp)
      have hl2 := W2.lt hhas2
      have hl0 : 0 ≤ n - 2 := by omega
      have hn6 : n ≤ 1000000 := by have := wf_N Wi; omega
      have hSCu : SlC u 3 a' cap' (ints m) := hSC4.keep fun g hg => (hSw.out (hSC4.lt hg) (hC0 g hg)).2
      have hCu0 : ∀ g, blk a' = some g → own2 g = 0 := fun g hg => (hSw.out (hSC4.lt hg) (hC0 g hg)).1
      clear S I q1 q2 ok okl okh hz hnd' hn0 Wi a1 a2 a3 a4 hgo hgo' hbox0 sL sH e3 e4 hni hInS
      obtain ⟨gC, curC, rfl, hgC, hcC, _, hatC⟩ := hSCu.at (i := i) (v := .int .i64 n) (by rw [List.getElem?_map, hn]; rfl)
      rw [List.length_map] at hcC
      have hltC : (i : Int) < m.length := by omega
      obtain ⟨pa, na, nc, sc, oc, hX⟩ := id hIu
      obtain ⟨g, cur, rfl, hg, hc, hlt2, x0, x1, x2, hsz3, hex⟩ := hX.no.at hxi
      have hp := hX.at_
      have c2 := hX.rc.c1
      have hsz := hX.rc.size
      have hpl := lt_of_heap hp
      have hgl := lt_of_heap hg
      have hglC := lt_of_heap hgC
      have hli1 := hli.2
      refine w_ fun d => ?_
      refine s_wide (xw_ ?_)
      refine dw_ ?_
      refine xf2A fun v1 hF1 hw1 => ?_
      have hs1 := sz_ hF1
      refine krA ?_
      refine kv ?_
      refine ⟨ext_, ?_⟩
      refine dw_ ?_
      refine xf2A fun v2 hF2 hw2 => ?_
      have hs2 := sz_ hw2
      have hz2 := hw2.at (alloc_new (w := v1) (o := .cells #[.int .i64 0, .int .i64 0, .int .i64 0] 39))
      refine krA ?_
      refine ks ?_
      refine ⟨ext_, ?_⟩
      refine dw_ ?_
      refine xf_nil fun v3 hF3 => ?_
      have hE3 : Ext u v3 := Ext.trans (by exact ext_) hF3
      have hb3 : v3.heap[v1.heap.size]? = some (.cells #[.int .i64 v, .int .i64 Lo, .int .i64 Hi] 39) := hF3.at (hA rfl)
      obtain ⟨bk, hbk⟩ : ∃ bk, v1.heap.size = bk := ⟨_, rfl⟩
      rw [hbk] at hb3
      have hub : u.heap.size ≤ bk := by omega
      have hbl3 := lt_of_heap hb3
      rw [hbk]
      clear hF3 hz2 hw2 hF2 hw1 hs2 hs1 hF1 hbk
      clear v2 v1
      have hbo3 : own2 bk = 0 := by
        cases ho : own2 bk with
        | zero => rfl
        | succ q => have := hIu.lt bk (by omega); omega
      have hSC3 := hSCu.ext hE3
      have s1 := sd1 _ hE3
      have s2 := sd2 _ hE3
      clear sd1 sd2 hp hg hgC x0 x1 x2 hsz3 hex hatC hX c2 hxi
      refine s_draw (XD_ext ?_)
      refine de_ ?_
      refine xe2w fun v4 hE4 => ?_
      have hE4u := hE3.trans hE4
      have hb4 := hE4.at hb3
      have hbl4 := lt_of_heap hb4
      have hSC4' := hSC3.ext hE4
      refine krA ?_
      refine ke ?_
      refine (mk1 _ hE4u hSC4').mono ?_
      rintro _ v5 ⟨rfl, own5, hR5, hSw5⟩
      refine de_ ?_
      refine xn_ fun v6 hE6 hs6 => ?_
      have hb6 := hE6.at (((hSw5.out hbl4 hbo3).2).trans hb4)
      have hbo5 := (hSw5.out hbl4 hbo3).1
      have hbl6 := lt_of_heap hb6
      have hC5 : ∀ g, blk (some (⟨gC, 0, none⟩ : Addr)) = some g → own5 g = 0 := fun g hg => (hSw5.out (hSC4'.lt hg) (hCu0 g hg)).1
      have hSC6 : SlC v6 3 (some ⟨gC, 0, none⟩) cap' (ints m) := SlC.ext (hSC4'.keep fun g hg => (hSw5.out (hSC4'.lt hg) (hCu0 g hg)).2) hE6
      have hSw6 := ((hSw.ext hE4u).trans hSw5).ext hE6
      have hR6 := hR5.ext hE6
      have s3 := sd3 _ _ hR6
      have s4 := sd4 _ _ hR6
      clear s1 s2 mk1 sd3 sd4 hE3 hE4 hE4u hb3 hbl3 hb4 hbl4 hSC3 hSC4' hR5 hSw5 hE6 hs6 hbo3
      refine w_ fun d => ?_
      refine s_draw (XD_ext ?_)
      refine de_ ?_
      refine xe2w fun v7 hE7 => ?_
      have hb7 := hE7.at hb6
      have hbl7 := lt_of_heap hb7
      have hSC7 := hSC6.ext hE7
      refine krA ?_
      refine ke ?_
      refine (mk2 _ _ (hR6.ext hE7) hSC7).mono ?_
      rintro _ v8 ⟨rfl, own8, hR8, hSw8⟩
      refine de_ ?_
      refine xn_ fun v9 hE9 hs9 => ?_
      have hSC9 : SlC v9 3 (some ⟨gC, 0, none⟩) cap' (ints m) := SlC.ext (hSC7.keep fun g hg => (hSw8.out (hSC7.lt hg) (hC5 g hg)).2) hE9
      have hSw9 := ((hSw6.ext hE7).trans hSw8).ext hE9
      have hR9 := hR8.ext hE9
      clear s3 s4 mk2 hR6 hE7 hb7 hbl7 hSC7 hR8 hSw8 hE9 hs9 hb6 hbl6 hSC6 hSw6 hbo5
      obtain ⟨gC', curC', hgCe, hgC9, _, _, hatC9⟩ := hSC9.at (i := i) (v := .int .i64 n) (by rw [List.getElem?_map, hn]; rfl)
      cases hgCe
      obtain ⟨pa9, na9, nc9, sc9, oc9, hX9⟩ := hR9
      have hk9 : (n - 2).toNat < t2.N.length := by omega
      obtain ⟨z9, hz9⟩ : ∃ z, t2.N[(n - 2).toNat]? = some z := ⟨t2.N[(n - 2).toNat], List.getElem?_eq_getElem hk9⟩
      obtain ⟨g9, cur9, rfl, hg9, hc9, _, _, _, _, hsz9, _⟩ := hX9.no.at (v := z9.1) (lo := z9.2.1) (hi := z9.2.2) hz9
      have hp9 := hX9.at_
      have c9 := hX9.rc.c1
      have hscz9 := hX9.rc.size
      have hgl9 := lt_of_heap hg9
      have hgC9l := lt_of_heap hgC9
      have hl29 := hl2.2
      obtain ⟨hX10, hC10⟩ := hX9.setNode hg9 hk9 (y, o1, o2)
      have hSw10 := hSw9.trans ⟨fun _ _ => rfl, Chg.foot hC10 (by decide)⟩
      have hlay : sn = ⟨t2.a, t2.N.set (n - 2).toNat (y, o1, o2), t2.ord⟩ := hst
      rw [← hlay] at hX10
      clear hX9 hC10 hSw9 hst hlay hz9 hk9 hn hSCu hIu hI4
      refine w_ fun d => ?_
      exact ⟨⟨i + 1, own8, sn, by omega, eA rfl, ⟨_, _, _, _, _, hX10.ext ext_⟩, hSw10.ext ext_, hbox⟩, mA⟩
    · obtain rfl : i = m.length := by omega
      rw [List.drop_length] at hgo
      have hff : si = fin := hgo
      subst hff
      have hSwf := hSww.trans hSw
      clear I hgo
      refine w_ fun d => ?_
      exact ⟨rfl, own2, hIu, hSwf⟩
end
end Go.Proofs.Ytpeindhocndmnaa

namespace Go.Proofs.Ytpeindhocndmnaa
open Go Go.Bx
set_option linter.unusedSimpArgs false
set_option linter.unusedVariables false
set_option maxRecDepth 100000
theorem tmod_pk (n : Int) {b : Int} (hb : 0 < b) : -b < n.tmod b ∧ n.tmod b < b ∧ (n.tmod b < 0 → n.tmod b + b = n % b) ∧ (0 ≤ n.tmod b → n.tmod b = n % b) := by
  have h1 := Int.mul_tdiv_add_tmod n b
  have h2 : n.tmod b < b := Int.tmod_lt_of_pos n hb
  have h3 : -b < n.tmod b := Int.lt_tmod_of_pos n hb
  have h4 : n % b = n.tmod b % b := by
    conv => lhs; rw [← h1]
    rw [Int.add_comm, Int.add_mul_emod_self_left]
  refine ⟨h3, h2, fun h => ?_, fun h => ?_⟩
  · rw [h4, ← Int.add_emod_right, Int.emod_eq_of_lt (by omega) (by omega)]
  · rw [h4, Int.emod_eq_of_lt h h2]
theorem pick_calls (n b : Int) (hb : 0 < b) (hm : b ≤ 4611686018427387904) (w : World) :
    CallsR Try.prog 26 #[.int .i64 n, .int .i64 b] w fun r w' => r = .int .i64 (n % b) ∧ Ext w w' := by
  obtain ⟨h3, h4, h5, h6⟩ := tmod_pk n hb
  have hb0 : b ≠ 0 := by omega
  refine calls2 (bs := []) Try.func26 rfl mixed (by kernel_rfl) ?_
  intro e0 h0 h1
  simp only [comp, gop, gslot, dops, bigOf, setK, drawOf, drawOf2, dopsW, setW, dopsR, setR, kindOf, List.lookup, List.map_cons, List.map_nil, Option.bind_some, List.getElem?_toArray, List.getElem?_cons_zero, List.getElem?_cons_succ, Option.getD_some, Option.getD_none, List.contains_nil, List.contains_cons, Bool.false_eq_true, ↓reduceIte, Nat.reduceAdd, Nat.reduceBEq, Bool.or_false]
  refine X_seq fun K hK => ?_
  simp only [X_reg, thenX_normal]
  repeat (first | (refine xo (by simp (disch := first | assumption | omega | (with_unfolding_all exact id rfl) | exact Nat.le_of_ble_eq_true rfl | fail) only [Bool.not_true, Bool.not_false, vR_ok, uR_ok, ev_tmp, ev_const, ev_func, Env.put_some, Env.put_none, Env.set_app, Nat.reduceEqDiff, ↓reduceIte, rG_move, rG_assign, opt1_some, ext_all, dec_t, dec_f, beq_t, beq_f, bne_t, bne_f, wrap_i64, wrap_u64, Int.toNat_natCast, Nat.mul_one, Nat.zero_add, Nat.add_zero, List.map_toArray, List.map_cons, List.map_nil, rG_binOp, binR_rem, resM_1, binR_lss, binR_add] <;> rfl) ?_; first | with_reducible refine kv ?_ | with_reducible refine ks ?_ | with_reducible refine ke ?_) | (refine xo_t ?_ ?_; focus (simp (disch := first | assumption | omega | (with_unfolding_all exact id rfl) | exact Nat.le_of_ble_eq_true rfl | fail) only [Env.put_some, Env.put_none, Env.set_app, Nat.reduceEqDiff, ↓reduceIte, Bool.not_true, Bool.not_false]; done)) | (refine xo_f ?_ ?_; focus (simp (disch := first | assumption | omega | (with_unfolding_all exact id rfl) | exact Nat.le_of_ble_eq_true rfl | fail) only [Env.put_some, Env.put_none, Env.set_app, Nat.reduceEqDiff, ↓reduceIte, Bool.not_true, Bool.not_false]; done)) | (refine xo_u ?_ ?_; focus (simp (disch := first | assumption | omega | (with_unfolding_all exact id rfl) | exact Nat.le_of_ble_eq_true rfl | fail) only [Env.put_some, Env.put_none, Env.set_app, Nat.reduceEqDiff, ↓reduceIte, Bool.not_true, Bool.not_false]; done)))
  refine xo_nil ?_
  refine hK _ _ ?_
  clear hK K
  refine X_seq fun K hK => ?_
  simp only [X_reg, thenX_normal]
  repeat (first | (refine xo (by simp (disch := first | assumption | omega | (with_unfolding_all exact id rfl) | exact Nat.le_of_ble_eq_true rfl | fail) only [Bool.not_true, Bool.not_false, vR_ok, uR_ok, ev_tmp, ev_const, ev_func, Env.put_some, Env.put_none, Env.set_app, Nat.reduceEqDiff, ↓reduceIte, rG_move, rG_assign, opt1_some, ext_all, dec_t, dec_f, beq_t, beq_f, bne_t, bne_f, wrap_i64, wrap_u64, Int.toNat_natCast, Nat.mul_one, Nat.zero_add, Nat.add_zero, List.map_toArray, List.map_cons, List.map_nil, rG_binOp, binR_rem, resM_1, binR_lss, binR_add, h0, h1] <;> rfl) ?_; first | with_reducible refine kv ?_ | with_reducible refine ks ?_ | with_reducible refine ke ?_) | (refine xo_t ?_ ?_; focus (simp (disch := first | assumption | omega | (with_unfolding_all exact id rfl) | exact Nat.le_of_ble_eq_true rfl | fail) only [Env.put_some, Env.put_none, Env.set_app, Nat.reduceEqDiff, ↓reduceIte, Bool.not_true, Bool.not_false, h0, h1]; done)) | (refine xo_f ?_ ?_; focus (simp (disch := first | assumption | omega | (with_unfolding_all exact id rfl) | exact Nat.le_of_ble_eq_true rfl | fail) only [Env.put_some, Env.put_none, Env.set_app, Nat.reduceEqDiff, ↓reduceIte, Bool.not_true, Bool.not_false, h0, h1]; done)) | (refine xo_u ?_ ?_; focus (simp (disch := first | assumption | omega | (with_unfolding_all exact id rfl) | exact Nat.le_of_ble_eq_true rfl | fail) only [Env.put_some, Env.put_none, Env.set_app, Nat.reduceEqDiff, ↓reduceIte, Bool.not_true, Bool.not_false, h0, h1]; done)))
  refine xo_nil ?_
  refine hK _ _ ?_
  clear hK K
  by_cases hn : n.tmod b < 0
  · refine X_cut (fun e w' => e 0 = .int .i64 (n % b) ∧ Ext w w') ?_ ?_
    · refine X_seq fun K hK => ?_
      simp only [X_reg, thenX_normal]
      repeat (first | (refine xo (by simp (disch := first | assumption | omega | (with_unfolding_all exact id rfl) | exact Nat.le_of_ble_eq_true rfl | fail) only [Bool.not_true, Bool.not_false, vR_ok, uR_ok, ev_tmp, ev_const, ev_func, Env.put_some, Env.put_none, Env.set_app, Nat.reduceEqDiff, ↓reduceIte, rG_move, rG_assign, opt1_some, ext_all, dec_t, dec_f, beq_t, beq_f, bne_t, bne_f, wrap_i64, wrap_u64, Int.toNat_natCast, Nat.mul_one, Nat.zero_add, Nat.add_zero, List.map_toArray, List.map_cons, List.map_nil, rG_binOp, binR_rem, resM_1, binR_lss, binR_add] <;> rfl) ?_; first | with_reducible refine kv ?_ | with_reducible refine ks ?_ | with_reducible refine ke ?_) | (refine xo_t ?_ ?_; focus (simp (disch := first | assumption | omega | (with_unfolding_all exact id rfl) | exact Nat.le_of_ble_eq_true rfl | fail) only [Env.put_some, Env.put_none, Env.set_app, Nat.reduceEqDiff, ↓reduceIte, Bool.not_true, Bool.not_false]; done)) | (refine xo_f ?_ ?_; focus (simp (disch := first | assumption | omega | (with_unfolding_all exact id rfl) | exact Nat.le_of_ble_eq_true rfl | fail) only [Env.put_some, Env.put_none, Env.set_app, Nat.reduceEqDiff, ↓reduceIte, Bool.not_true, Bool.not_false]; done)) | (refine xo_u ?_ ?_; focus (simp (disch := first | assumption | omega | (with_unfolding_all exact id rfl) | exact Nat.le_of_ble_eq_true rfl | fail) only [Env.put_some, Env.put_none, Env.set_app, Nat.reduceEqDiff, ↓reduceIte, Bool.not_true, Bool.not_false]; done)))
      refine xo_nil ?_
      refine hK _ _ ?_
      clear hK K
      refine X_if_t (by simp (disch := first | assumption | omega) only [ev_tmp, Env.put_some, Env.put_none, Env.set_app, Nat.reduceEqDiff, ↓reduceIte, beq_t, dec_t, beq_self_eq_true]) ?_
      (try simp only [X_reg, thenX_normal])
      repeat (first | (refine xo (by simp (disch := first | assumption | omega | (with_unfolding_all exact id rfl) | exact Nat.le_of_ble_eq_true rfl | fail) only [Bool.not_true, Bool.not_false, vR_ok, uR_ok, ev_tmp, ev_const, ev_func, Env.put_some, Env.put_none, Env.set_app, Nat.reduceEqDiff, ↓reduceIte, rG_move, rG_assign, opt1_some, ext_all, dec_t, dec_f, beq_t, beq_f, bne_t, bne_f, wrap_i64, wrap_u64, Int.toNat_natCast, Nat.mul_one, Nat.zero_add, Nat.add_zero, List.map_toArray, List.map_cons, List.map_nil, rG_binOp, binR_rem, resM_1, binR_lss, binR_add, h1] <;> rfl) ?_; first | with_reducible refine kv ?_ | with_reducible refine ks ?_ | with_reducible refine ke ?_) | (refine xo_t ?_ ?_; focus (simp (disch := first | assumption | omega | (with_unfolding_all exact id rfl) | exact Nat.le_of_ble_eq_true rfl | fail) only [Env.put_some, Env.put_none, Env.set_app, Nat.reduceEqDiff, ↓reduceIte, Bool.not_true, Bool.not_false, h1]; done)) | (refine xo_f ?_ ?_; focus (simp (disch := first | assumption | omega | (with_unfolding_all exact id rfl) | exact Nat.le_of_ble_eq_true rfl | fail) only [Env.put_some, Env.put_none, Env.set_app, Nat.reduceEqDiff, ↓reduceIte, Bool.not_true, Bool.not_false, h1]; done)) | (refine xo_u ?_ ?_; focus (simp (disch := first | assumption | omega | (with_unfolding_all exact id rfl) | exact Nat.le_of_ble_eq_true rfl | fail) only [Env.put_some, Env.put_none, Env.set_app, Nat.reduceEqDiff, ↓reduceIte, Bool.not_true, Bool.not_false, h1]; done)))
      refine xo_nil ⟨?_, Ext.refl w⟩
      (try simp (disch := first | assumption | omega | (with_unfolding_all exact id rfl) | exact Nat.le_of_ble_eq_true rfl | fail) only [Env.put_some, Env.put_none, Env.set_app, Nat.reduceEqDiff, ↓reduceIte, nat_int, Int.toNat_natCast, wrap_i64])
      rw [h5 hn]
    · rintro e w1 ⟨h0', hE⟩
      refine X_seq fun K hK => ?_
      simp only [X_reg, thenX_normal]
      repeat (first | (refine xo (by simp (disch := first | assumption | omega | (with_unfolding_all exact id rfl) | exact Nat.le_of_ble_eq_true rfl | fail) only [Bool.not_true, Bool.not_false, vR_ok, uR_ok, ev_tmp, ev_const, ev_func, Env.put_some, Env.put_none, Env.set_app, Nat.reduceEqDiff, ↓reduceIte, rG_move, rG_assign, opt1_some, ext_all, dec_t, dec_f, beq_t, beq_f, bne_t, bne_f, wrap_i64, wrap_u64, Int.toNat_natCast, Nat.mul_one, Nat.zero_add, Nat.add_zero, List.map_toArray, List.map_cons, List.map_nil, rG_binOp, binR_rem, resM_1, binR_lss, binR_add, h0'] <;> rfl) ?_; first | with_reducible refine kv ?_ | with_reducible refine ks ?_ | with_reducible refine ke ?_) | (refine xo_t ?_ ?_; focus (simp (disch := first | assumption | omega | (with_unfolding_all exact id rfl) | exact Nat.le_of_ble_eq_true rfl | fail) only [Env.put_some, Env.put_none, Env.set_app, Nat.reduceEqDiff, ↓reduceIte, Bool.not_true, Bool.not_false, h0']; done)) | (refine xo_f ?_ ?_; focus (simp (disch := first | assumption | omega | (with_unfolding_all exact id rfl) | exact Nat.le_of_ble_eq_true rfl | fail) only [Env.put_some, Env.put_none, Env.set_app, Nat.reduceEqDiff, ↓reduceIte, Bool.not_true, Bool.not_false, h0']; done)) | (refine xo_u ?_ ?_; focus (simp (disch := first | assumption | omega | (with_unfolding_all exact id rfl) | exact Nat.le_of_ble_eq_true rfl | fail) only [Env.put_some, Env.put_none, Env.set_app, Nat.reduceEqDiff, ↓reduceIte, Bool.not_true, Bool.not_false, h0']; done)))
      refine xo_nil ?_
      refine hK _ _ ?_
      clear hK K
      simp (disch := first | assumption | omega | (with_unfolding_all exact id rfl) | exact Nat.le_of_ble_eq_true rfl | fail) only [X_ret, thenX_ret, inX_ret, retX_ret, retX_normal, Try.results26, resM_0, resM_1, resM_2, resM_3, resM_4, Env.put_some, Env.put_none, Env.set_app, Nat.reduceEqDiff, ↓reduceIte]
      exact ⟨_, rfl, rfl, hE⟩
  · refine X_cut (fun e w' => e 0 = .int .i64 (n % b) ∧ Ext w w') ?_ ?_
    · refine X_seq fun K hK => ?_
      simp only [X_reg, thenX_normal]
      repeat (first | (refine xo (by simp (disch := first | assumption | omega | (with_unfolding_all exact id rfl) | exact Nat.le_of_ble_eq_true rfl | fail) only [Bool.not_true, Bool.not_false, vR_ok, uR_ok, ev_tmp, ev_const, ev_func, Env.put_some, Env.put_none, Env.set_app, Nat.reduceEqDiff, ↓reduceIte, rG_move, rG_assign, opt1_some, ext_all, dec_t, dec_f, beq_t, beq_f, bne_t, bne_f, wrap_i64, wrap_u64, Int.toNat_natCast, Nat.mul_one, Nat.zero_add, Nat.add_zero, List.map_toArray, List.map_cons, List.map_nil, rG_binOp, binR_rem, resM_1, binR_lss, binR_add] <;> rfl) ?_; first | with_reducible refine kv ?_ | with_reducible refine ks ?_ | with_reducible refine ke ?_) | (refine xo_t ?_ ?_; focus (simp (disch := first | assumption | omega | (with_unfolding_all exact id rfl) | exact Nat.le_of_ble_eq_true rfl | fail) only [Env.put_some, Env.put_none, Env.set_app, Nat.reduceEqDiff, ↓reduceIte, Bool.not_true, Bool.not_false]; done)) | (refine xo_f ?_ ?_; focus (simp (disch := first | assumption | omega | (with_unfolding_all exact id rfl) | exact Nat.le_of_ble_eq_true rfl | fail) only [Env.put_some, Env.put_none, Env.set_app, Nat.reduceEqDiff, ↓reduceIte, Bool.not_true, Bool.not_false]; done)) | (refine xo_u ?_ ?_; focus (simp (disch := first | assumption | omega | (with_unfolding_all exact id rfl) | exact Nat.le_of_ble_eq_true rfl | fail) only [Env.put_some, Env.put_none, Env.set_app, Nat.reduceEqDiff, ↓reduceIte, Bool.not_true, Bool.not_false]; done)))
      refine xo_nil ?_
      refine hK _ _ ?_
      clear hK K
      refine X_if_f (by simp (disch := first | assumption | omega) only [ev_tmp, Env.put_some, Env.put_none, Env.set_app, Nat.reduceEqDiff, ↓reduceIte, beq_f, dec_f]) ?_
      simp only [X_skip, X_exit, X_ret, X_block, thenX_normal, thenX_ret, thenX_exit, inX_normal, inX_ret, inX_exit, ↓reduceIte, Nat.reduceEqDiff]
      refine ⟨?_, Ext.refl w⟩
      (try simp (disch := first | assumption | omega | (with_unfolding_all exact id rfl) | exact Nat.le_of_ble_eq_true rfl | fail) only [Env.put_some, Env.put_none, Env.set_app, Nat.reduceEqDiff, ↓reduceIte, nat_int, Int.toNat_natCast, wrap_i64])
      rw [h6 (by omega)]
    · rintro e w1 ⟨h0', hE⟩
      refine X_seq fun K hK => ?_
      simp only [X_reg, thenX_normal]
      repeat (first | (refine xo (by simp (disch := first | assumption | omega | (with_unfolding_all exact id rfl) | exact Nat.le_of_ble_eq_true rfl | fail) only [Bool.not_true, Bool.not_false, vR_ok, uR_ok, ev_tmp, ev_const, ev_func, Env.put_some, Env.put_none, Env.set_app, Nat.reduceEqDiff, ↓reduceIte, rG_move, rG_assign, opt1_some, ext_all, dec_t, dec_f, beq_t, beq_f, bne_t, bne_f, wrap_i64, wrap_u64, Int.toNat_natCast, Nat.mul_one, Nat.zero_add, Nat.add_zero, List.map_toArray, List.map_cons, List.map_nil, rG_binOp, binR_rem, resM_1, binR_lss, binR_add, h0'] <;> rfl) ?_; first | with_reducible refine kv ?_ | with_reducible refine ks ?_ | with_reducible refine ke ?_) | (refine xo_t ?_ ?_; focus (simp (disch := first | assumption | omega | (with_unfolding_all exact id rfl) | exact Nat.le_of_ble_eq_true rfl | fail) only [Env.put_some, Env.put_none, Env.set_app, Nat.reduceEqDiff, ↓reduceIte, Bool.not_true, Bool.not_false, h0']; done)) | (refine xo_f ?_ ?_; focus (simp (disch := first | assumption | omega | (with_unfolding_all exact id rfl) | exact Nat.le_of_ble_eq_true rfl | fail) only [Env.put_some, Env.put_none, Env.set_app, Nat.reduceEqDiff, ↓reduceIte, Bool.not_true, Bool.not_false, h0']; done)) | (refine xo_u ?_ ?_; focus (simp (disch := first | assumption | omega | (with_unfolding_all exact id rfl) | exact Nat.le_of_ble_eq_true rfl | fail) only [Env.put_some, Env.put_none, Env.set_app, Nat.reduceEqDiff, ↓reduceIte, Bool.not_true, Bool.not_false, h0']; done)))
      refine xo_nil ?_
      refine hK _ _ ?_
      clear hK K
      simp (disch := first | assumption | omega | (with_unfolding_all exact id rfl) | exact Nat.le_of_ble_eq_true rfl | fail) only [X_ret, thenX_ret, inX_ret, retX_ret, retX_normal, Try.results26, resM_0, resM_1, resM_2, resM_3, resM_4, Env.put_some, Env.put_none, Env.set_app, Nat.reduceEqDiff, ↓reduceIte]
      exact ⟨_, rfl, rfl, hE⟩
theorem errV_zero : errV 0 = .nilIface := rfl
theorem errV_of {c : Int} (h : c ≠ 0) : errV c = .iface 127 (.int .i64 c) := if_neg h
theorem code_calls (c : Int) (h0 : 0 ≤ c) (h8 : c ≤ 8) (w : World) :
    CallsR Try.prog 29 #[errV c] w fun r w' => r = .int .i64 c ∧ Ext w w' := by
  refine calls1 (bs := []) Try.func29 rfl mixed (by kernel_rfl) ?_
  intro e0 h0
  simp only [comp, gop, gslot, dops, bigOf, setK, drawOf, drawOf2, dopsW, setW, dopsR, setR, kindOf, List.lookup, List.map_cons, List.map_nil, Option.bind_some, List.getElem?_toArray, List.getElem?_cons_zero, List.getElem?_cons_succ, Option.getD_some, Option.getD_none, List.contains_nil, List.contains_cons, Bool.false_eq_true, ↓reduceIte, Nat.reduceAdd, Nat.reduceBEq, Bool.or_false]
  refine X_seq fun K hK => ?_
  simp only [X_reg, thenX_normal]
  repeat (first | (refine xo (by simp (disch := first | assumption | omega | (with_unfolding_all exact id rfl) | exact Nat.le_of_ble_eq_true rfl | fail) only [Bool.not_true, Bool.not_false, vR_ok, uR_ok, ev_tmp, ev_const, ev_func, Env.put_some, Env.put_none, Env.set_app, Nat.reduceEqDiff, ↓reduceIte, rG_move, rG_assign, opt1_some, ext_all, dec_t, dec_f, beq_t, beq_f, bne_t, bne_f, wrap_i64, wrap_u64, Int.toNat_natCast, Nat.mul_one, Nat.zero_add, Nat.add_zero, List.map_toArray, List.map_cons, List.map_nil, rG_binOp, binR_add, mi127, resM_1, ceql_nn_47, ceql_in_47, ceql_ni_47, ceql_ii_47_127, binR_leq] <;> rfl) ?_; first | with_reducible refine kv ?_ | with_reducible refine ks ?_ | with_reducible refine ke ?_) | (refine xo_t ?_ ?_; focus (simp (disch := first | assumption | omega | (with_unfolding_all exact id rfl) | exact Nat.le_of_ble_eq_true rfl | fail) only [Env.put_some, Env.put_none, Env.set_app, Nat.reduceEqDiff, ↓reduceIte, Bool.not_true, Bool.not_false]; done)) | (refine xo_f ?_ ?_; focus (simp (disch := first | assumption | omega | (with_unfolding_all exact id rfl) | exact Nat.le_of_ble_eq_true rfl | fail) only [Env.put_some, Env.put_none, Env.set_app, Nat.reduceEqDiff, ↓reduceIte, Bool.not_true, Bool.not_false]; done)) | (refine xo_u ?_ ?_; focus (simp (disch := first | assumption | omega | (with_unfolding_all exact id rfl) | exact Nat.le_of_ble_eq_true rfl | fail) only [Env.put_some, Env.put_none, Env.set_app, Nat.reduceEqDiff, ↓reduceIte, Bool.not_true, Bool.not_false]; done)))
  refine xo_nil ?_
  refine hK _ _ ?_
  clear hK K
  by_cases hc : c = 0
  · subst hc
    rw [errV_zero] at h0
    refine X_seq fun K hK => ?_
    refine X_seq fun K hK => ?_
    simp only [X_reg, thenX_normal]
    repeat (first | (refine xo (by simp (disch := first | assumption | omega | (with_unfolding_all exact id rfl) | exact Nat.le_of_ble_eq_true rfl | fail) only [Bool.not_true, Bool.not_false, vR_ok, uR_ok, ev_tmp, ev_const, ev_func, Env.put_some, Env.put_none, Env.set_app, Nat.reduceEqDiff, ↓reduceIte, rG_move, rG_assign, opt1_some, ext_all, dec_t, dec_f, beq_t, beq_f, bne_t, bne_f, wrap_i64, wrap_u64, Int.toNat_natCast, Nat.mul_one, Nat.zero_add, Nat.add_zero, List.map_toArray, List.map_cons, List.map_nil, rG_binOp, binR_add, mi127, resM_1, ceql_nn_47, ceql_in_47, ceql_ni_47, ceql_ii_47_127, binR_leq, h0] <;> rfl) ?_; first | with_reducible refine kv ?_ | with_reducible refine ks ?_ | with_reducible refine ke ?_) | (refine xo_t ?_ ?_; focus (simp (disch := first | assumption | omega | (with_unfolding_all exact id rfl) | exact Nat.le_of_ble_eq_true rfl | fail) only [Env.put_some, Env.put_none, Env.set_app, Nat.reduceEqDiff, ↓reduceIte, Bool.not_true, Bool.not_false, h0]; done)) | (refine xo_f ?_ ?_; focus (simp (disch := first | assumption | omega | (with_unfolding_all exact id rfl) | exact Nat.le_of_ble_eq_true rfl | fail) only [Env.put_some, Env.put_none, Env.set_app, Nat.reduceEqDiff, ↓reduceIte, Bool.not_true, Bool.not_false, h0]; done)) | (refine xo_u ?_ ?_; focus (simp (disch := first | assumption | omega | (with_unfolding_all exact id rfl) | exact Nat.le_of_ble_eq_true rfl | fail) only [Env.put_some, Env.put_none, Env.set_app, Nat.reduceEqDiff, ↓reduceIte, Bool.not_true, Bool.not_false, h0]; done)))
    refine xo_nil ?_
    refine hK _ _ ?_
    clear hK K
    refine X_if_t (by simp (disch := first | assumption | omega) only [ev_tmp, Env.put_some, Env.put_none, Env.set_app, Nat.reduceEqDiff, ↓reduceIte, beq_t, dec_t, beq_self_eq_true]) ?_
    refine X_seq fun K hK => ?_
    simp only [X_reg, thenX_normal]
    repeat (first | (refine xo (by simp (disch := first | assumption | omega | (with_unfolding_all exact id rfl) | exact Nat.le_of_ble_eq_true rfl | fail) only [Bool.not_true, Bool.not_false, vR_ok, uR_ok, ev_tmp, ev_const, ev_func, Env.put_some, Env.put_none, Env.set_app, Nat.reduceEqDiff, ↓reduceIte, rG_move, rG_assign, opt1_some, ext_all, dec_t, dec_f, beq_t, beq_f, bne_t, bne_f, wrap_i64, wrap_u64, Int.toNat_natCast, Nat.mul_one, Nat.zero_add, Nat.add_zero, List.map_toArray, List.map_cons, List.map_nil, rG_binOp, binR_add, mi127, resM_1, ceql_nn_47, ceql_in_47, ceql_ni_47, ceql_ii_47_127, binR_leq] <;> rfl) ?_; first | with_reducible refine kv ?_ | with_reducible refine ks ?_ | with_reducible refine ke ?_) | (refine xo_t ?_ ?_; focus (simp (disch := first | assumption | omega | (with_unfolding_all exact id rfl) | exact Nat.le_of_ble_eq_true rfl | fail) only [Env.put_some, Env.put_none, Env.set_app, Nat.reduceEqDiff, ↓reduceIte, Bool.not_true, Bool.not_false]; done)) | (refine xo_f ?_ ?_; focus (simp (disch := first | assumption | omega | (with_unfolding_all exact id rfl) | exact Nat.le_of_ble_eq_true rfl | fail) only [Env.put_some, Env.put_none, Env.set_app, Nat.reduceEqDiff, ↓reduceIte, Bool.not_true, Bool.not_false]; done)) | (refine xo_u ?_ ?_; focus (simp (disch := first | assumption | omega | (with_unfolding_all exact id rfl) | exact Nat.le_of_ble_eq_true rfl | fail) only [Env.put_some, Env.put_none, Env.set_app, Nat.reduceEqDiff, ↓reduceIte, Bool.not_true, Bool.not_false]; done)))
    refine xo_nil ?_
    refine hK _ _ ?_
    clear hK K
    simp (disch := first | assumption | omega | (with_unfolding_all exact id rfl) | exact Nat.le_of_ble_eq_true rfl | fail) only [X_ret, thenX_ret, inX_ret, retX_ret, retX_normal, Try.results29, resM_0, resM_1, resM_2, resM_3, resM_4, Env.put_some, Env.put_none, Env.set_app, Nat.reduceEqDiff, ↓reduceIte]
    exact ⟨_, rfl, rfl, Ext.refl w⟩
  · rw [errV_of hc] at h0
    refine X_seq fun K hK => ?_
    refine X_seq fun K hK => ?_
    simp only [X_reg, thenX_normal]
    repeat (first | (refine xo (by simp (disch := first | assumption | omega | (with_unfolding_all exact id rfl) | exact Nat.le_of_ble_eq_true rfl | fail) only [Bool.not_true, Bool.not_false, vR_ok, uR_ok, ev_tmp, ev_const, ev_func, Env.put_some, Env.put_none, Env.set_app, Nat.reduceEqDiff, ↓reduceIte, rG_move, rG_assign, opt1_some, ext_all, dec_t, dec_f, beq_t, beq_f, bne_t, bne_f, wrap_i64, wrap_u64, Int.toNat_natCast, Nat.mul_one, Nat.zero_add, Nat.add_zero, List.map_toArray, List.map_cons, List.map_nil, rG_binOp, binR_add, mi127, resM_1, ceql_nn_47, ceql_in_47, ceql_ni_47, ceql_ii_47_127, binR_leq, h0] <;> rfl) ?_; first | with_reducible refine kv ?_ | with_reducible refine ks ?_ | with_reducible refine ke ?_) | (refine xo_t ?_ ?_; focus (simp (disch := first | assumption | omega | (with_unfolding_all exact id rfl) | exact Nat.le_of_ble_eq_true rfl | fail) only [Env.put_some, Env.put_none, Env.set_app, Nat.reduceEqDiff, ↓reduceIte, Bool.not_true, Bool.not_false, h0]; done)) | (refine xo_f ?_ ?_; focus (simp (disch := first | assumption | omega | (with_unfolding_all exact id rfl) | exact Nat.le_of_ble_eq_true rfl | fail) only [Env.put_some, Env.put_none, Env.set_app, Nat.reduceEqDiff, ↓reduceIte, Bool.not_true, Bool.not_false, h0]; done)) | (refine xo_u ?_ ?_; focus (simp (disch := first | assumption | omega | (with_unfolding_all exact id rfl) | exact Nat.le_of_ble_eq_true rfl | fail) only [Env.put_some, Env.put_none, Env.set_app, Nat.reduceEqDiff, ↓reduceIte, Bool.not_true, Bool.not_false, h0]; done)))
    refine xo_nil ?_
    refine hK _ _ ?_
    clear hK K
    refine X_if_f (by simp (disch := first | assumption | omega) only [ev_tmp, Env.put_some, Env.put_none, Env.set_app, Nat.reduceEqDiff, ↓reduceIte, beq_f, dec_f]) ?_
    simp only [X_skip, X_exit, X_ret, X_block, thenX_normal, thenX_ret, thenX_exit, inX_normal, inX_ret, inX_exit, ↓reduceIte, Nat.reduceEqDiff]
    (try refine xo_nil ?_)
    refine hK _ _ ?_
    clear hK K
    refine X_cut (fun e w' => False) ?_ ?_
    · refine X_seq fun K hK => ?_
      simp only [X_reg, thenX_normal]
      repeat (first | (refine xo (by simp (disch := first | assumption | omega | (with_unfolding_all exact id rfl) | exact Nat.le_of_ble_eq_true rfl | fail) only [Bool.not_true, Bool.not_false, vR_ok, uR_ok, ev_tmp, ev_const, ev_func, Env.put_some, Env.put_none, Env.set_app, Nat.reduceEqDiff, ↓reduceIte, rG_move, rG_assign, opt1_some, ext_all, dec_t, dec_f, beq_t, beq_f, bne_t, bne_f, wrap_i64, wrap_u64, Int.toNat_natCast, Nat.mul_one, Nat.zero_add, Nat.add_zero, List.map_toArray, List.map_cons, List.map_nil, rG_binOp, binR_add, mi127, resM_1, ceql_nn_47, ceql_in_47, ceql_ni_47, ceql_ii_47_127, binR_leq] <;> rfl) ?_; first | with_reducible refine kv ?_ | with_reducible refine ks ?_ | with_reducible refine ke ?_) | (refine xo_t ?_ ?_; focus (simp (disch := first | assumption | omega | (with_unfolding_all exact id rfl) | exact Nat.le_of_ble_eq_true rfl | fail) only [Env.put_some, Env.put_none, Env.set_app, Nat.reduceEqDiff, ↓reduceIte, Bool.not_true, Bool.not_false]; done)) | (refine xo_f ?_ ?_; focus (simp (disch := first | assumption | omega | (with_unfolding_all exact id rfl) | exact Nat.le_of_ble_eq_true rfl | fail) only [Env.put_some, Env.put_none, Env.set_app, Nat.reduceEqDiff, ↓reduceIte, Bool.not_true, Bool.not_false]; done)) | (refine xo_u ?_ ?_; focus (simp (disch := first | assumption | omega | (with_unfolding_all exact id rfl) | exact Nat.le_of_ble_eq_true rfl | fail) only [Env.put_some, Env.put_none, Env.set_app, Nat.reduceEqDiff, ↓reduceIte, Bool.not_true, Bool.not_false]; done)))
      refine xo_nil ?_
      refine hK _ _ ?_
      clear hK K
      simp only [X_skip, X_exit, X_ret, X_block, thenX_normal, thenX_ret, thenX_exit, inX_normal, inX_ret, inX_exit, ↓reduceIte, Nat.reduceEqDiff]
      refine X_loop (fun e w' => ∃ k : Int, 1 ≤ k ∧ k ≤ c ∧ e 3 = .int .i64 k ∧ e 0 = .iface 127 (.int .i64 c) ∧ Ext w w') (fun e _ => match e 3 with | .int _ n => (9 - n).toNat | _ => 0) ?_ ?_
      · refine ⟨1, by omega, by omega, ?_, ?_, Ext.refl w⟩
        · (try simp (disch := first | assumption | omega | (with_unfolding_all exact id rfl) | exact Nat.le_of_ble_eq_true rfl | fail) only [Env.put_some, Env.put_none, Env.set_app, Nat.reduceEqDiff, ↓reduceIte, nat_int, Int.toNat_natCast, wrap_i64])
        · (try simp (disch := first | assumption | omega | (with_unfolding_all exact id rfl) | exact Nat.le_of_ble_eq_true rfl | fail) only [Env.put_some, Env.put_none, Env.set_app, Nat.reduceEqDiff, ↓reduceIte, nat_int, Int.toNat_natCast, wrap_i64, h0])
      · rintro e w1 ⟨k, hk1, hkc, h3, h0, hE⟩
        refine X_seq fun K hK => ?_
        refine X_seq fun K hK => ?_
        (try simp only [X_reg, thenX_normal])
        repeat (first | (refine xo (by simp (disch := first | assumption | omega | (with_unfolding_all exact id rfl) | exact Nat.le_of_ble_eq_true rfl | fail) only [Bool.not_true, Bool.not_false, vR_ok, uR_ok, ev_tmp, ev_const, ev_func, Env.put_some, Env.put_none, Env.set_app, Nat.reduceEqDiff, ↓reduceIte, rG_move, rG_assign, opt1_some, ext_all, dec_t, dec_f, beq_t, beq_f, bne_t, bne_f, wrap_i64, wrap_u64, Int.toNat_natCast, Nat.mul_one, Nat.zero_add, Nat.add_zero, List.map_toArray, List.map_cons, List.map_nil, rG_binOp, binR_add, mi127, resM_1, ceql_nn_47, ceql_in_47, ceql_ni_47, ceql_ii_47_127, binR_leq, h3] <;> rfl) ?_; first | with_reducible refine kv ?_ | with_reducible refine ks ?_ | with_reducible refine ke ?_) | (refine xo_t ?_ ?_; focus (simp (disch := first | assumption | omega | (with_unfolding_all exact id rfl) | exact Nat.le_of_ble_eq_true rfl | fail) only [Env.put_some, Env.put_none, Env.set_app, Nat.reduceEqDiff, ↓reduceIte, Bool.not_true, Bool.not_false, h3]; done)) | (refine xo_f ?_ ?_; focus (simp (disch := first | assumption | omega | (with_unfolding_all exact id rfl) | exact Nat.le_of_ble_eq_true rfl | fail) only [Env.put_some, Env.put_none, Env.set_app, Nat.reduceEqDiff, ↓reduceIte, Bool.not_true, Bool.not_false, h3]; done)) | (refine xo_u ?_ ?_; focus (simp (disch := first | assumption | omega | (with_unfolding_all exact id rfl) | exact Nat.le_of_ble_eq_true rfl | fail) only [Env.put_some, Env.put_none, Env.set_app, Nat.reduceEqDiff, ↓reduceIte, Bool.not_true, Bool.not_false, h3]; done)))
        (try refine xo_nil ?_)
        refine hK _ _ ?_
        clear hK K
        refine X_if_t (by simp (disch := first | assumption | omega) only [ev_tmp, Env.put_some, Env.put_none, Env.set_app, Nat.reduceEqDiff, ↓reduceIte, beq_t, dec_t, beq_self_eq_true]) ?_
        simp only [X_skip, X_exit, X_ret, X_block, thenX_normal, thenX_ret, thenX_exit, inX_normal, inX_ret, inX_exit, ↓reduceIte, Nat.reduceEqDiff]
        (try refine xo_nil ?_)
        refine hK _ _ ?_
        clear hK K
        refine X_seq fun K hK => ?_
        simp only [X_skip, X_exit, X_ret, X_block, thenX_normal, thenX_ret, thenX_exit, inX_normal, inX_ret, inX_exit, ↓reduceIte, Nat.reduceEqDiff]
        refine X_seq fun K hK => ?_
        simp only [X_reg, thenX_normal]
        repeat (first | (refine xo (by simp (disch := first | assumption | omega | (with_unfolding_all exact id rfl) | exact Nat.le_of_ble_eq_true rfl | fail) only [Bool.not_true, Bool.not_false, vR_ok, uR_ok, ev_tmp, ev_const, ev_func, Env.put_some, Env.put_none, Env.set_app, Nat.reduceEqDiff, ↓reduceIte, rG_move, rG_assign, opt1_some, ext_all, dec_t, dec_f, beq_t, beq_f, bne_t, bne_f, wrap_i64, wrap_u64, Int.toNat_natCast, Nat.mul_one, Nat.zero_add, Nat.add_zero, List.map_toArray, List.map_cons, List.map_nil, rG_binOp, binR_add, mi127, resM_1, ceql_nn_47, ceql_in_47, ceql_ni_47, ceql_ii_47_127, binR_leq, h3, h0] <;> rfl) ?_; first | with_reducible refine kv ?_ | with_reducible refine ks ?_ | with_reducible refine ke ?_) | (refine xo_t ?_ ?_; focus (simp (disch := first | assumption | omega | (with_unfolding_all exact id rfl) | exact Nat.le_of_ble_eq_true rfl | fail) only [Env.put_some, Env.put_none, Env.set_app, Nat.reduceEqDiff, ↓reduceIte, Bool.not_true, Bool.not_false, h3, h0]; done)) | (refine xo_f ?_ ?_; focus (simp (disch := first | assumption | omega | (with_unfolding_all exact id rfl) | exact Nat.le_of_ble_eq_true rfl | fail) only [Env.put_some, Env.put_none, Env.set_app, Nat.reduceEqDiff, ↓reduceIte, Bool.not_true, Bool.not_false, h3, h0]; done)) | (refine xo_u ?_ ?_; focus (simp (disch := first | assumption | omega | (with_unfolding_all exact id rfl) | exact Nat.le_of_ble_eq_true rfl | fail) only [Env.put_some, Env.put_none, Env.set_app, Nat.reduceEqDiff, ↓reduceIte, Bool.not_true, Bool.not_false, h3, h0]; done)))
        refine xo_nil ?_
        refine hK _ _ ?_
        clear hK K
        by_cases hkk : k = c
        · subst hkk
          refine X_if_t (by simp (disch := first | assumption | omega) only [ev_tmp, Env.put_some, Env.put_none, Env.set_app, Nat.reduceEqDiff, ↓reduceIte, beq_t, dec_t, beq_self_eq_true, beq_self_eq_true]) ?_
          refine X_seq fun K hK => ?_
          simp only [X_reg, thenX_normal]
          repeat (first | (refine xo (by simp (disch := first | assumption | omega | (with_unfolding_all exact id rfl) | exact Nat.le_of_ble_eq_true rfl | fail) only [Bool.not_true, Bool.not_false, vR_ok, uR_ok, ev_tmp, ev_const, ev_func, Env.put_some, Env.put_none, Env.set_app, Nat.reduceEqDiff, ↓reduceIte, rG_move, rG_assign, opt1_some, ext_all, dec_t, dec_f, beq_t, beq_f, bne_t, bne_f, wrap_i64, wrap_u64, Int.toNat_natCast, Nat.mul_one, Nat.zero_add, Nat.add_zero, List.map_toArray, List.map_cons, List.map_nil, rG_binOp, binR_add, mi127, resM_1, ceql_nn_47, ceql_in_47, ceql_ni_47, ceql_ii_47_127, binR_leq, h3] <;> rfl) ?_; first | with_reducible refine kv ?_ | with_reducible refine ks ?_ | with_reducible refine ke ?_) | (refine xo_t ?_ ?_; focus (simp (disch := first | assumption | omega | (with_unfolding_all exact id rfl) | exact Nat.le_of_ble_eq_true rfl | fail) only [Env.put_some, Env.put_none, Env.set_app, Nat.reduceEqDiff, ↓reduceIte, Bool.not_true, Bool.not_false, h3]; done)) | (refine xo_f ?_ ?_; focus (simp (disch := first | assumption | omega | (with_unfolding_all exact id rfl) | exact Nat.le_of_ble_eq_true rfl | fail) only [Env.put_some, Env.put_none, Env.set_app, Nat.reduceEqDiff, ↓reduceIte, Bool.not_true, Bool.not_false, h3]; done)) | (refine xo_u ?_ ?_; focus (simp (disch := first | assumption | omega | (with_unfolding_all exact id rfl) | exact Nat.le_of_ble_eq_true rfl | fail) only [Env.put_some, Env.put_none, Env.set_app, Nat.reduceEqDiff, ↓reduceIte, Bool.not_true, Bool.not_false, h3]; done)))
          refine xo_nil ?_
          refine hK _ _ ?_
          clear hK K
          simp only [X_skip, X_exit, X_ret, X_block, thenX_normal, thenX_ret, thenX_exit, inX_normal, inX_ret, inX_exit, ↓reduceIte, Nat.reduceEqDiff]
          simp (disch := first | assumption | omega | (with_unfolding_all exact id rfl) | exact Nat.le_of_ble_eq_true rfl | fail) only [X_ret, thenX_ret, inX_ret, retX_ret, retX_normal, Try.results29, resM_0, resM_1, resM_2, resM_3, resM_4, Env.put_some, Env.put_none, Env.set_app, Nat.reduceEqDiff, ↓reduceIte]
          exact ⟨_, rfl, rfl, hE⟩
        · have hne : (c == k) = false := beq_eq_false_iff_ne.2 (fun h => hkk h.symm)
          refine X_if_f (by simp (disch := first | assumption | omega) only [ev_tmp, Env.put_some, Env.put_none, Env.set_app, Nat.reduceEqDiff, ↓reduceIte, beq_f, dec_f, hne]) ?_
          simp only [X_skip, X_exit, X_ret, X_block, thenX_normal, thenX_ret, thenX_exit, inX_normal, inX_ret, inX_exit, ↓reduceIte, Nat.reduceEqDiff]
          (try refine xo_nil ?_)
          refine hK _ _ ?_
          clear hK K
          (try simp only [X_reg, thenX_normal])
          repeat (first | (refine xo (by simp (disch := first | assumption | omega | (with_unfolding_all exact id rfl) | exact Nat.le_of_ble_eq_true rfl | fail) only [Bool.not_true, Bool.not_false, vR_ok, uR_ok, ev_tmp, ev_const, ev_func, Env.put_some, Env.put_none, Env.set_app, Nat.reduceEqDiff, ↓reduceIte, rG_move, rG_assign, opt1_some, ext_all, dec_t, dec_f, beq_t, beq_f, bne_t, bne_f, wrap_i64, wrap_u64, Int.toNat_natCast, Nat.mul_one, Nat.zero_add, Nat.add_zero, List.map_toArray, List.map_cons, List.map_nil, rG_binOp, binR_add, mi127, resM_1, ceql_nn_47, ceql_in_47, ceql_ni_47, ceql_ii_47_127, binR_leq, h3] <;> rfl) ?_; first | with_reducible refine kv ?_ | with_reducible refine ks ?_ | with_reducible refine ke ?_) | (refine xo_t ?_ ?_; focus (simp (disch := first | assumption | omega | (with_unfolding_all exact id rfl) | exact Nat.le_of_ble_eq_true rfl | fail) only [Env.put_some, Env.put_none, Env.set_app, Nat.reduceEqDiff, ↓reduceIte, Bool.not_true, Bool.not_false, h3]; done)) | (refine xo_f ?_ ?_; focus (simp (disch := first | assumption | omega | (with_unfolding_all exact id rfl) | exact Nat.le_of_ble_eq_true rfl | fail) only [Env.put_some, Env.put_none, Env.set_app, Nat.reduceEqDiff, ↓reduceIte, Bool.not_true, Bool.not_false, h3]; done)) | (refine xo_u ?_ ?_; focus (simp (disch := first | assumption | omega | (with_unfolding_all exact id rfl) | exact Nat.le_of_ble_eq_true rfl | fail) only [Env.put_some, Env.put_none, Env.set_app, Nat.reduceEqDiff, ↓reduceIte, Bool.not_true, Bool.not_false, h3]; done)))
          refine xo_nil ⟨⟨k + 1, by omega, by omega, ?_, ?_, hE⟩, ?_⟩
          · (try simp (disch := first | assumption | omega | (with_unfolding_all exact id rfl) | exact Nat.le_of_ble_eq_true rfl | fail) only [Env.put_some, Env.put_none, Env.set_app, Nat.reduceEqDiff, ↓reduceIte, nat_int, Int.toNat_natCast, wrap_i64])
          · (try simp (disch := first | assumption | omega | (with_unfolding_all exact id rfl) | exact Nat.le_of_ble_eq_true rfl | fail) only [Env.put_some, Env.put_none, Env.set_app, Nat.reduceEqDiff, ↓reduceIte, nat_int, Int.toNat_natCast, wrap_i64, h0])
          · (try simp (disch := first | assumption | omega | (with_unfolding_all exact id rfl) | exact Nat.le_of_ble_eq_true rfl | fail) only [Env.put_some, Env.put_none, Env.set_app, Nat.reduceEqDiff, ↓reduceIte, nat_int, Int.toNat_natCast, wrap_i64, h3])
            omega
    · exact fun _ _ h => h.elim
theorem pick_sure (n b : Int) (hb : 0 < b) (hm : b ≤ 4611686018427387904) : Sure Try.prog 26 #[.int .i64 n, .int .i64 b] (.int .i64 (n % b)) := fun w => pick_calls n b hb hm w
theorem code_sure (c : Int) (h0 : 0 ≤ c) (h8 : c ≤ 8) : Sure Try.prog 29 #[errV c] (.int .i64 c) := fun w => code_calls c h0 h8 w
end Go.Proofs.Ytpeindhocndmnaa

namespace Go.Proofs.Ytpeindhocndmnaa
open Go Go.Bx
set_option linter.unusedSimpArgs false
set_option linter.unusedVariables false
set_option maxRecDepth 100000
set_option maxHeartbeats 4000000
attribute [local irreducible] X XO XE XF XD XW thenX inX retX kN CallsR
theorem ints_same {w : World} {a b : Option Addr} {c d : Nat} {l : List Int} (hA : InI w a l) (hB : InI w b l) (hl : l.length ≤ 1000000) : Quiet Try.prog 30 #[.slice a l.length c, .slice b l.length d] w (.int .i64 1) := by
  intro u hu
  have hA := Inp.ext hA hu
  have hB := Inp.ext hB hu
  clear hu
  refine en2 Try.func30 Try.results30 mixed [] ?_
  intro e0 h0 h1
  refine w_ fun d => ?_
  refine lo_ (fun W e w' => ∃ k : Nat, k ≤ l.length ∧ e 5 = .int .i64 k ∧ Ext W w') (fun e _ => l.length - nat (e 5)) ?_ ?_
  · exact ⟨0, by omega, eA rfl, ext_⟩
  rintro e w1 hf ⟨k, hk, h5, hE⟩
  have hs1 := sz_ hE
  have hA1 := Inp.ext hA hE
  have hB1 := Inp.ext hB hE
  clear hA hB
  by_cases hlt : k < l.length
  · obtain ⟨x, hx⟩ : ∃ x, l[k]? = some x := ⟨l[k], List.getElem?_eq_getElem (by omega)⟩
    rcases InI.at hA1 with rfl | ⟨b1, o1, cs1, E1, fz1, rfl, hb1, hat1⟩
    · simp at hlt
    rcases InI.at hB1 with rfl | ⟨b2, o2, cs2, E2, fz2, rfl, hb2, hat2⟩
    · simp at hlt
    have hat1 := hat1 k x hx
    have hat2 := hat2 k x hx
    clear hA1 hB1 hx
    refine w_ fun d => ?_
    exact ⟨⟨k + 1, by omega, eA rfl, ext_⟩, mA⟩
  · obtain rfl : k = l.length := by omega
    clear hA1 hB1
    refine w_ fun d => ?_
    exact ⟨rfl, ext_⟩
end Go.Proofs.Ytpeindhocndmnaa

namespace Go.Proofs.Ytpeindhocndmnaa
open Go Go.Bx
set_option linter.unusedSimpArgs false
set_option linter.unusedVariables false
set_option maxRecDepth 100000
set_option maxHeartbeats 4000000
attribute [local irreducible] X XO XE XF XD XW thenX inX retX kN CallsR
def ownN (a b : Nat) : Nat → Nat := fun k => if k = a then 1 else if k = b then 2 else 0
theorem ownN_1 {a b : Nat} : ownN a b a = 1 := if_pos rfl
theorem ownN_0 {a b k : Nat} (h1 : k ≠ a) (h2 : k ≠ b) : ownN a b k = 0 := by unfold ownN; rw [if_neg h1, if_neg h2]
theorem ownN_2 {a b k : Nat} (h : k ≠ a) : ownN a b k = 2 ↔ k = b := by
  unfold ownN; rw [if_neg h]
  by_cases e : k = b
  · rw [if_pos e]; simp [e]
  · rw [if_neg e]; simp [e]
theorem owns_N2 {a b : Nat} (h : a ≠ b) : owns (ownN a b) 2 = fun k => k = b := funext fun k => propext (by
  unfold owns
  by_cases e1 : k = a
  · subst e1
    rw [ownN_1]
    constructor
    · intro h; cases h
    · intro e; exact absurd e h
  · exact ownN_2 e1)
theorem plain_calls (w : World) : CallsR Try.prog 49 #[] w fun r w' => r = aI plain ∧ Ext w w' := by
  refine en0 Try.func49 Try.results49 mixed [] ?_
  intro e0
  refine w_ fun d => ?_
  exact ⟨rfl, ext_⟩
theorem rsNew_calls (most : Int) (h0' : 0 ≤ most) (h1' : most ≤ 20000) (w : World) :
    CallsR Try.prog 83 #[.int .i64 most] w fun r w' => ∃ own p, r = .pointer (some ⟨p, 0, none⟩) ∧ RsI own w' p (Md.new most) ∧ (∀ k, own k ≠ 0 → w.heap.size ≤ k) ∧ Ext w w' := by
  refine en1 Try.func83 Try.results83 mixed [] ?_
  intro e0 h0
  refine w_ fun d => ?_
  refine (plain_calls _).mono ?_
  rintro _ w1 ⟨rfl, hE1⟩
  have hs1 := hE1.size
  rw [alloc_size] at hs1
  obtain ⟨oc, hc⟩ := ordC (ord := plain) rfl
  have e : aI plain = .agg #[.int .i64 0, .int .i64 1, .int .i64 2, .int .i64 3, .int .i64 4, .int .i64 5, .int .i64 6, .int .i64 7] := rfl
  rw [e]
  have hoc : oc = #[.int .i64 0, .int .i64 1, .int .i64 2, .int .i64 3, .int .i64 4, .int .i64 5, .int .i64 6, .int .i64 7] := by have := hc.agg; rw [e] at this; cases this; rfl
  refine w_ fun d => ?_
  have hRA := (raNew_box (most := most) (w := w)).ext hE1
  have hEw : Ext w w1 := Ext.trans (by exact ext_) hE1
  have hpl : w1.heap.size ≠ w.heap.size := by omega
  have hown := (owns_N2 hpl).symm
  rw [hown] at hRA
  refine ⟨ownN w1.heap.size w.heap.size, w1.heap.size, rfl, ⟨w.heap.size, none, 0, _, oc, hA rfl, ⟨rfl, rfl, rfl, ?_⟩, hc, ownN_1, hRA.ext ext_, Sl.nil _ _ _, (fun g h => by cases h), fun k hk => ?_⟩, fun k hk => ?_, ext_⟩
  · rw [hoc]; rfl
  · by_cases e1 : k = w1.heap.size
    · rw [e1, alloc_size]; omega
    · by_cases e2 : k = w.heap.size
      · rw [e2, alloc_size]; omega
      · exact absurd (ownN_0 e1 e2) hk
  · by_cases e1 : k = w1.heap.size
    · omega
    · by_cases e2 : k = w.heap.size
      · omega
      · exact absurd (ownN_0 e1 e2) hk
theorem stNew_none (most : Int) (h : ¬ (0 ≤ most ∧ most ≤ 20000)) : Sure Try.prog 19 #[.int .i64 most] (.pointer none) := by
  intro w
  have c1 := arNew_none most h
  clear h
  refine en1 Try.func19 Try.results19 mixed [(8, [2])] ?_
  intro e0 h0
  refine w_ fun d => ?_
  refine qq (c1.quiet (w := w)) fun w1 hE1 hs1 => ?_
  refine w_ fun d => ?_
  exact ⟨rfl, ext_⟩
structure NewI (w0 w : World) (p pa : Nat) (most : Int) (k : Nat) (own : Nat → Nat) (sc : Array Value) (pu : Nat → Nat) : Prop where
  at_ : w.heap[p]? = some (.cells sc 120)
  size : sc.size = 20
  c0 : sc[0]? = some (.int .i64 most)
  c1 : sc[1]? = some (.pointer (some ⟨pa, 0, none⟩))
  c2 : sc[2]? = some (.slice none 0 0)
  c3 : sc[3]? = some (.slice none 0 0)
  cu : ∀ v : Nat, v < k → sc[4 + v]? = some (.pointer (some ⟨pu v, 0, none⟩))
  co : Value.agg (sc.extract 12 20) = aI plain
  op : own p = 1
  ar : ArI (owns own 2) w pa ⟨most, [], []⟩
  un : ∀ v, v < k → UqM (owns own (10 + v)) w (pu v) (fun _ => none) 0
  no : ∀ v, k ≤ v → ∀ j, own j ≠ 10 + v
  lt : ∀ j, own j ≠ 0 → w0.heap.size ≤ j ∧ j < w.heap.size
  ext : Ext w0 w
theorem NewI.keep {w0 w w' : World} {p pa : Nat} {most : Int} {k : Nat} {own : Nat → Nat} {sc : Array Value} {pu : Nat → Nat} (h : NewI w0 w p pa most k own sc pu) (hE : Ext w w') : NewI w0 w' p pa most k own sc pu :=
  ⟨hE.at h.at_, h.size, h.c0, h.c1, h.c2, h.c3, h.cu, h.co, h.op, h.ar.ext hE, fun v hv => (h.un v hv).ext hE, h.no, fun j hj => ⟨(h.lt j hj).1, Nat.lt_of_lt_of_le (h.lt j hj).2 hE.size⟩, h.ext.trans hE⟩
theorem NewI.next {w0 u u2 u3 : World} {p pa : Nat} {most : Int} {k : Nat} {own : Nat → Nat} {sc : Array Value} {pu : Nat → Nat} (h : NewI w0 u p pa most k own sc pu) (hk : k < 8) {q : Nat} (hU : UqM (fun j => u.heap.size ≤ j ∧ j < u2.heap.size) u2 q (fun _ => none) 0) (hE : Ext u u2) (hE3 : Ext u2 u3) :
    NewI w0 (upd u3 p (.cells (sc.setIfInBounds (4 + k) (.pointer (some ⟨q, 0, none⟩))) 120)) p pa most (k + 1) (ownUp own u u2 (10 + k)) (sc.setIfInBounds (4 + k) (.pointer (some ⟨q, 0, none⟩))) (fun v => if v = k then q else pu v) := by
  have hlt : ∀ j, own j ≠ 0 → j < u.heap.size := fun j hj => (h.lt j hj).2
  have hp := (hE.trans hE3).at h.at_
  have hpl := lt_of_heap hp
  have hs := h.size
  have hsz := hE.size
  have hsz3 := hE3.size
  have hop : ownUp own u u2 (10 + k) p = 1 := by rw [ownUp_old (hlt p (by rw [h.op]; decide))]; exact h.op
  have hne : ∀ j, ownUp own u u2 (10 + k) j ≠ 1 → (upd u3 p (.cells (sc.setIfInBounds (4 + k) (.pointer (some ⟨q, 0, none⟩))) 120)).heap[j]? = u3.heap[j]? := fun j hj => upd_other fun e => hj (by rw [← e]; exact hop)
  refine ⟨upd_same hpl, by rw [Array.size_setIfInBounds]; exact hs, by rw [Array.getElem?_setIfInBounds_ne (by omega)]; exact h.c0, by rw [Array.getElem?_setIfInBounds_ne (by omega)]; exact h.c1, by rw [Array.getElem?_setIfInBounds_ne (by omega)]; exact h.c2, by rw [Array.getElem?_setIfInBounds_ne (by omega)]; exact h.c3, fun v hv => ?_, ?_, hop, ?_, fun v hv => ?_, fun v hv j hj => ?_, fun j hj => ?_, ?_⟩
  · by_cases e : v = k
    · subst e; rw [Array.getElem?_setIfInBounds_self_of_lt (by omega)]; simp
    · rw [Array.getElem?_setIfInBounds_ne (by omega), h.cu v (by omega)]; simp [e]
  · rw [← h.co]
    congr 1
    apply Array.ext_getElem?
    intro j
    rw [Array.getElem?_extract, Array.getElem?_extract, Array.size_setIfInBounds, Array.getElem?_setIfInBounds_ne (by omega)]
  · rw [owns_up_other hlt (by decide) (by omega)]
    exact (h.ar.ext (hE.trans hE3)).keep (fun j hj => upd_other fun e => by unfold owns at hj; rw [← e, h.op] at hj; cases hj) (by rw [upd_size]; exact Nat.le_refl _)
  · by_cases e : v = k
    · subst e
      rw [owns_up_self]
      have h1 := (hU.ext hE3).wider (G := Grow (owns own (10 + v)) u u2) (fun j hj => .inr hj) (fun j hj => by
        rcases hj with hj | hj
        · exact absurd hj (h.no v (Nat.le_refl _) j)
        · omega)
      show UqM _ _ (if v = v then q else pu v) _ _
      rw [if_pos rfl]
      exact h1.keep (fun j hj => upd_other fun e => by
        rw [← e] at hj
        rcases hj with hj | hj
        · exact absurd hj (h.no v (Nat.le_refl _) p)
        · have := hlt p (by rw [h.op]; decide); omega) (by rw [upd_size]; exact Nat.le_refl _)
    · rw [owns_up_other hlt (by omega) (by omega)]
      show UqM _ _ (if v = k then q else pu v) _ _
      rw [if_neg e]
      exact ((h.un v (by omega)).ext (hE.trans hE3)).keep (fun j hj => upd_other fun e => by unfold owns at hj; rw [← e, h.op] at hj; omega) (by rw [upd_size]; exact Nat.le_refl _)
  · unfold ownUp at hj
    split at hj
    · omega
    · exact h.no v (by omega) j hj
  · rw [upd_size]
    have h0 := h.ext.size
    unfold ownUp at hj
    split at hj
    · rename_i hr; omega
    · have := h.lt j hj; omega
  · exact (h.ext.trans (hE.trans hE3)).upd (h.lt p (by rw [h.op]; decide)).1 _
theorem stNew_calls (most : Int) (h0' : 0 ≤ most) (h1' : most ≤ 20000) (w : World) :
    CallsR Try.prog 19 #[.int .i64 most] w fun r w' => ∃ own p, r = .pointer (some ⟨p, 0, none⟩) ∧ StI own w' p (Md.new most) [] ∧ (∀ k, own k ≠ 0 → w.heap.size ≤ k) ∧ Ext w w' := by
  have c1 := arNew_calls most h0' h1' w
  have hpl : w.heap.size + 1 ≠ w.heap.size := by omega
  have hown := (owns_N2 hpl).symm
  refine en1 Try.func19 Try.results19 mixed [(8, [2])] ?_
  intro e0 h0
  refine w_ fun d => ?_
  refine c1.mono ?_
  rintro _ w1 ⟨rfl, hRA, hs1, hE1⟩
  rw [hown] at hRA
  refine w_ fun d => ?_
  refine lo_ (fun _ e w' => ∃ (k : Nat) (own : Nat → Nat) (sc : Array Value) (pu : Nat → Nat), k ≤ 8 ∧ e 15 = .int .i64 k ∧ NewI w w' (w.heap.size + 1) w.heap.size most k own sc pu) (fun e _ => 8 - nat (e 15)) ?_ ?_
  · refine ⟨0, ownN (w.heap.size + 1) w.heap.size, _, fun _ => 0, by omega, eA rfl, hA rfl, rfl, rfl, rfl, rfl, rfl, fun v hv => by omega, rfl, ownN_1, hRA.ext ext_, fun v hv => by omega, fun v _ j hj => ?_, fun j hj => ?_, ext_⟩
    · by_cases e1 : j = w.heap.size + 1
      · rw [e1, ownN_1] at hj; omega
      · by_cases e2 : j = w.heap.size
        · rw [(ownN_2 e1).2 e2] at hj; omega
        · rw [ownN_0 e1 e2] at hj; omega
    · by_cases e1 : j = w.heap.size + 1
      · rw [alloc_size]; omega
      · by_cases e2 : j = w.heap.size
        · rw [alloc_size]; omega
        · exact absurd (ownN_0 e1 e2) hj
  rintro e u hf ⟨k, own, sc, pu, hk, h15, I⟩
  have hp := I.at_
  have hsz := I.size
  have hpl2 := lt_of_heap hp
  by_cases hlt : k < 8
  · refine w_ fun d => ?_
    refine s_draw (XD_ext ?_)
    refine de_ ?_
    refine xe2w fun v1 hF1 => ?_
    refine krA ?_
    refine ke ?_
    refine (uqNew_calls v1).mono ?_
    rintro _ v2 ⟨q, rfl, hU, hF2⟩
    have hF02 := hF1.trans hF2
    refine de_ ?_
    refine xe2w fun v3 hF3 => ?_
    have hp3 := (hF02.trans hF3).at hp
    have hpl3 := lt_of_heap hp3
    refine krA ?_
    refine ks ?_
    refine xn_ fun v4 hF4 hs4 => ?_
    have I2 := ((I.keep hF1).next hlt hU hF2 hF3).keep hF4
    clear hU hF2 hF02 hF3 hF4 hp3 hpl3 hs4 hF1 hp hpl2 I
    refine w_ fun d => ?_
    exact ⟨⟨k + 1, _, _, _, by omega, eA rfl, I2⟩, mA⟩
  · obtain rfl : k = 8 := by omega
    refine w_ fun d => ?_
    obtain ⟨oc, hc⟩ := ordC (ord := plain) rfl
    have hco : sc.extract 12 20 = oc := by have := I.co.trans hc.agg; cases this; rfl
    refine ⟨own, _, rfl, ⟨[], fun _ _ => none, fun _ => 0, ⟨w.heap.size, none, 0, none, 0, pu, sc, oc, ⟨I.at_, ⟨hsz, I.c0, I.c1, I.c2, I.c3, I.cu, hco⟩, hc, I.op, I.ar, Sl.nil _ _ _, (fun g h => by cases h), SlC.nil _ _, (fun g h => by cases h), I.un, fun k hk => (I.lt k hk).2⟩⟩, ⟨rfl, fun k hk => by simp [Md.new] at hk, fun v hv k n => ?_, fun v hv => rfl⟩⟩, fun k hk => (I.lt k hk).1, I.ext⟩
    constructor
    · intro h; cases h
    · rintro ⟨h, _⟩
      unfold Md.has Md.new Ar.has at h; simp at h
end Go.Proofs.Ytpeindhocndmnaa

namespace Go.Proofs.Ytpeindhocndmnaa
open Go Go.Bx
set_option linter.unusedSimpArgs false
set_option linter.unusedVariables false
set_option maxRecDepth 100000
set_option maxHeartbeats 4000000
attribute [local irreducible] X XO XE XF XD XW thenX inX retX kN CallsR
theorem SlC.appI {w : World} {a b0 : Option Addr} {cap c : Nat} {l m : List Int} (h : SlC w 3 a cap (ints l)) (hI : InI w b0 m) (hm : l.length + m.length ≤ 1000000000) :
    ∃ a' cap' w', apR Try.prog 34 (.slice a l.length cap) (.slice b0 m.length c) w = .ok (.slice a' (l ++ m).length cap') w' ∧ SlC w' 3 a' cap' (ints (l ++ m)) ∧ Chg (fun k => blk a = some k) w w' ∧ (∀ g, blk a' = some g → blk a = some g ∨ (w.heap.size ≤ g ∧ g < w'.heap.size)) := by
  obtain ⟨a2, c2, w2, hr, hS2, hC2, hB2⟩ := Sl.append (news := one1 (ints m)) (c := c) h T34 T3 rfl (by decide) hI one1_len (by rw [one1_flat]; exact List.all_eq_true.2 fun x hx => by obtain ⟨y, _, rfl⟩ := List.mem_map.1 hx; rfl) (by simp; omega) (by decide)
  rw [← List.map_append, ← List.map_append] at hr
  simp only [List.length_map] at hr
  exact ⟨a2, c2, w2, hr, by unfold SlC; rw [ints, List.map_append, one1, List.map_append]; exact hS2, hC2, hB2⟩
def pickN (s : Md) (n : Int) (raw : Bool) : Int := if raw then n else ((0 : Int) :: 1 :: s.all).getD (n % ((s.all.length : Int) + 2)).toNat 0
section
variable {own own1 own2 ownI ownM : Nat → Nat} {W w w' w1 w2 : World} {p ps pm : Nat} {s s' sM : Md} {n v x y lo hi : Int}
theorem pickN_there (Ws : s.WF) : pickN s n false = 0 ∨ pickN s n false = 1 ∨ s.has (pickN s n false) = true := by
  unfold pickN
  simp only [Bool.false_eq_true, ↓reduceIte]
  have h1 : 0 ≤ n % ((s.all.length : Int) + 2) := Int.emod_nonneg _ (by omega)
  have h2 : n % ((s.all.length : Int) + 2) < (s.all.length : Int) + 2 := Int.emod_lt_of_pos _ (by omega)
  obtain ⟨k, hk0⟩ : ∃ k, (n % ((s.all.length : Int) + 2)).toNat = k := ⟨_, rfl⟩
  rw [hk0]
  have hk : k < ((0 : Int) :: 1 :: s.all).length := by simp; omega
  have := List.getElem_mem hk
  rw [List.getD, List.getElem?_eq_getElem hk, Option.getD_some]
  rw [List.mem_cons, List.mem_cons, Ws.mem_all] at this
  exact this
theorem pickN_le (Ws : s.WF) (hn : n ≤ 9223372036854775807) {raw : Bool} : pickN s n raw ≤ 9223372036854775807 := by
  cases raw
  · have h1 := wf_N Ws
    rcases pickN_there Ws (n := n) with e | e | e
    · omega
    · omega
    · have := Ws.lt e; omega
  · exact hn
theorem lnode_calls (h : RsI own w p s) (Ws : s.WF) (n : Int) (raw : Bool) : Quiet Try.prog 52 #[.pointer (some ⟨p, 0, none⟩), .int .i64 n, .bool raw] w (.int .i64 (pickN s n raw)) := by
  intro u hu
  have h := h.ext hu
  clear hu
  cases raw
  rotate_left
  · show CallsR _ _ _ _ fun r u' => r = .int .i64 n ∧ Ext u u'
    clear h Ws
    refine en3 Try.func52 Try.results52 mixed [] ?_
    intro e0 h0 h1 h2
    refine w_ fun d => ?_
    exact ⟨rfl, ext_⟩
  have hN := wf_N Ws
  have hal : s.all.length ≤ s.N.length := allTo_len (s := s) (k := s.N.length)
  have hpk : pickN s n false = ((0 : Int) :: 1 :: s.all).getD (n % ((s.all.length : Int) + 2)).toNat 0 := rfl
  have hp0 : 0 ≤ n % ((s.all.length : Int) + 2) := Int.emod_nonneg _ (by omega)
  have hp1 : n % ((s.all.length : Int) + 2) < (s.all.length : Int) + 2 := Int.emod_lt_of_pos _ (by omega)
  have pk := pick_sure n ((s.all.length : Int) + 2) (by omega) (by omega)
  rw [hpk]
  generalize n % ((s.all.length : Int) + 2) = q at *
  clear hpk
  refine en3 Try.func52 Try.results52 mixed [] ?_
  intro e0 h0 h1 h2
  refine w_ fun d => ?_
  refine (rsAll_calls (h.ext ext_) Ws).mono ?_
  rintro _ w2 ⟨aA, cA, rfl, hSA, hnA, hEA⟩
  have hE2 : Ext u w2 := Ext.trans (by exact ext_) hEA
  have hb0 : w2.heap[u.heap.size]? = some (.cells #[.int .i64 0, .int .i64 1] 3) := hEA.at (hA rfl)
  have hS0 : SlC w2 3 (some ⟨u.heap.size, 0, none⟩) 2 (ints [0, 1]) := SlC.made hb0 (by simp)
  obtain ⟨a3, c3, w3, hr, hS3, hC3, hB3⟩ := SlC.appI hS0 (c := cA) hSA.inp (by simp; omega)
  have hE3 : Ext u w3 := hC3.toExt hE2 fun k hk hb => by have := blk_g hb; omega
  have hl3 : (([0, 1] : List Int) ++ s.all).length = s.all.length + 2 := by simp
  rw [hl3, show ([0, 1] : List Int).length = 2 from rfl] at hr
  obtain ⟨z, hz⟩ : ∃ z, ((0 : Int) :: 1 :: s.all)[q.toNat]? = some z := ⟨_, List.getElem?_eq_getElem (by simp; omega)⟩
  rw [List.getD, hz, Option.getD_some]
  obtain ⟨g, cur, rfl, hg, hc, hlt, hat⟩ := hS3.at (i := q.toNat) (v := .int .i64 z) (by rw [List.getElem?_map, show ([0, 1] : List Int) ++ s.all = 0 :: 1 :: s.all from rfl, hz]; rfl)
  rw [List.length_map, hl3] at hc
  have hq3 : q < ((s.all.length + 2 : Nat) : Int) := by omega
  have hgl := lt_of_heap hg
  clear hS3 hS0 hB3 hC3 hSA hEA hb0 hz hlt
  refine w_ fun d => ?_
  refine qq (pk.quiet (w := w3)) fun w4 hE4 hs4 => ?_
  refine w_ fun d => ?_
  exact ⟨rfl, ext_⟩
def PrI (W w : World) (ps pm : Nat) (s sM : Md) : Prop :=
  ∃ ownI ownM, StI ownI w ps s [] ∧ RsI ownM w pm sM ∧ (∀ k, ownI k ≠ 0 → ownM k = 0) ∧ (∀ k, ownI k ≠ 0 → W.heap.size ≤ k) ∧ (∀ k, ownM k ≠ 0 → W.heap.size ≤ k) ∧ Ext W w
theorem PrI.ext (h : PrI W w ps pm s sM) (hE : Ext w w') : PrI W w' ps pm s sM := by
  obtain ⟨a, b, h1, h2, h3, h4, h5, h6⟩ := h
  exact ⟨a, b, h1.ext hE, h2.ext hE, h3, h4, h5, h6.trans hE⟩
theorem PrI.world (h : PrI W w ps pm s sM) : Ext W w := by obtain ⟨_, _, _, _, _, _, _, h⟩ := h; exact h
theorem RsI.keep (h : RsI own w p s) (hne : ∀ k, own k ≠ 0 → w'.heap[k]? = w.heap[k]?) (hs : w.heap.size ≤ w'.heap.size) : RsI own w' p s := by
  obtain ⟨pa, na, nc, sc, oc, h⟩ := h
  exact ⟨pa, na, nc, sc, oc, h.keep hne hs⟩
theorem StI.keep (h : StI own w p s []) (hne : ∀ k, own k ≠ 0 → w'.heap[k]? = w.heap[k]?) (hs : w.heap.size ≤ w'.heap.size) : StI own w' p s [] := by
  obtain ⟨R, M, c, h, A⟩ := h
  exact ⟨R, M, c, h.keep hne hs, A⟩
theorem PrI.turnI {f : FuncId} {args : Array Value} {R : Value → Prop} (h : PrI W w ps pm s sM) (hc : ∀ own, StI own w ps s [] → CallsR Try.prog f args w fun r w' => R r ∧ TrI own w ps s' [] w') :
    CallsR Try.prog f args w fun r w' => R r ∧ PrI W w' ps pm s' sM := by
  obtain ⟨a, b, h1, h2, h3, h4, h5, h6⟩ := h
  refine (hc a h1).mono ?_
  rintro r w' ⟨hr, a', g1, ho, hC⟩
  have hs := hC.size
  have hsW := h6.size
  refine ⟨hr, a', b, g1, h2.keep (fun k hk => hC.heap k (h2.lt k hk) fun hf => hk (h3 k hf)) hs, fun k hk => ?_, fun k hk => ?_, h5, hC.toExt h6 fun k hk hf => by have := h4 k hf; omega⟩
  · by_cases hl : k < w.heap.size
    · exact h3 k (by rw [← ho k hl]; exact hk)
    · cases hb : b k with
      | zero => rfl
      | succ m => exact absurd (h2.lt k (by omega)) hl
  · by_cases hl : k < w.heap.size
    · exact h4 k (by rw [← ho k hl]; exact hk)
    · omega
theorem PrI.turnM {f : FuncId} {args : Array Value} {R : Value → Prop} (h : PrI W w ps pm s sM) (hc : ∀ own, RsI own w pm sM → CallsR Try.prog f args w fun r w' => R r ∧ TrS own w pm s' w') :
    CallsR Try.prog f args w fun r w' => R r ∧ PrI W w' ps pm s s' := by
  obtain ⟨a, b, h1, h2, h3, h4, h5, h6⟩ := h
  refine (hc b h2).mono ?_
  rintro r w' ⟨hr, b', g1, hSw⟩
  have hs := hSw.ch.size
  have hsW := h6.size
  have h3' : ∀ k, b k ≠ 0 → a k = 0 := fun k hk => by
    cases ha : a k with
    | zero => rfl
    | succ m => exact absurd (h3 k (by omega)) hk
  refine ⟨hr, a, b', h1.keep (fun k hk => hSw.ch.heap k (h1.lt k hk) fun hf => hk (h3' k hf)) hs, g1, fun k hk => ?_, h4, fun k hk => ?_, hSw.ch.toExt h6 fun k hk hf => by have := h5 k hf; omega⟩
  · have hl := h1.lt k hk
    rw [hSw.ho k hl]; exact h3 k hk
  · by_cases hl : k < w.heap.size
    · exact h5 k (by rw [← hSw.ho k hl]; exact hk)
    · omega
theorem PrI.i (h : PrI W w ps pm s sM) : ∃ own, StI own w ps s [] := by obtain ⟨a, b, h1, h2, _⟩ := h; exact ⟨a, h1⟩
theorem PrI.m (h : PrI W w ps pm s sM) : ∃ own, RsI own w pm sM := by obtain ⟨a, b, h1, h2, _⟩ := h; exact ⟨b, h2⟩
end
end Go.Proofs.Ytpeindhocndmnaa

namespace Go.Proofs.Ytpeindhocndmnaa
open Go Go.Bx
set_option linter.unusedSimpArgs false
set_option linter.unusedVariables false
set_option maxRecDepth 100000
set_option maxHeartbeats 4000000
attribute [local irreducible] X XO XE XF XD XW thenX inX retX kN CallsR
theorem aI_neq {x y : Operand} {l : List Int} {oc : Array Value} {w : World} (h : OrdC l oc) : binR Try.prog .neq 36 x y (.agg oc) (.agg oc) w = .ok (.bool false) w := by
  have hl := h.len
  have hq : Value.agg oc = .agg (l.map (Value.int .i64)).toArray := h.agg.symm
  rw [hq, binR_neqA (by kernel_rfl) (equal_ints T36 T3 hl hl)]
  simp
section
variable {W w w' w1 w2 : World} {p ps pm : Nat} {s s' sM : Md} {n v x y lo hi : Int}
theorem free_rng : 0 ≤ (s.free n).1 ∧ (s.free n).1 ≤ 8 := by unfold Md.free; split <;> simp
theorem swap_rng : 0 ≤ (s.swap n).1 ∧ (s.swap n).1 ≤ 8 := by unfold Md.swap; split; simp; split <;> simp
theorem mk_rng (Ws : s.WF) : 0 ≤ (s.mk' [] v lo hi).1.2 ∧ (s.mk' [] v lo hi).1.2 ≤ 8 := by
  have h := Ws.mks [] v lo hi
  generalize s.mk' [] v lo hi = r at h
  cases h <;> simp
theorem same_calls (h : PrI W w ps pm s s) (G : s.Good []) : CallsR Try.prog 21 #[.pointer (some ⟨ps, 0, none⟩), .pointer (some ⟨pm, 0, none⟩)] w fun r w' => r = .int .i64 1 ∧ Ext w w' := by
  have Ws := G.wf
  obtain ⟨ownI, hI⟩ := h.i
  obtain ⟨ownM, hM⟩ := h.m
  have hN := wf_N Ws
  have hal : s.all.length ≤ s.N.length := allTo_len (s := s) (k := s.N.length)
  have hla := Ws.len_all
  have lv := stLive_calls hI Ws
  have rm := stRoom_calls hI Ws
  have rr := rsRoom_calls hM Ws
  have od := stOrder_calls hI
  obtain ⟨pa, na, nc, sc, oc, hX⟩ := id hM
  have hoc := hX.oc
  have hp := hX.at_
  have co := hX.rc.co
  have hsz := hX.rc.size
  have hpl := lt_of_heap hp
  rw [hoc.agg] at od
  rw [← hla] at lv
  have nq := fun (x y : Operand) (w : World) => aI_neq (x := x) (y := y) (w := w) hoc
  clear hX h
  refine en2 Try.func21 Try.results21 mixed [(2, [1])] ?_
  intro e0 h0 h1
  refine w_ fun d => ?_
  refine (rsAll_calls (hM.ext ext_) Ws).mono ?_
  rintro _ w1 ⟨aM, cM, rfl, hSM, hnM, hEM⟩
  have hE1 : Ext w w1 := Ext.trans (by exact ext_) hEM
  refine w_ fun d => ?_
  refine s_draw (XD_ext ?_)
  refine de_ ?_
  refine xe2w fun w2 hE2 => ?_
  refine krA ?_
  refine ke ?_
  refine (stAll_calls (hI.ext (hE1.trans hE2)) Ws).mono ?_
  rintro _ w3 ⟨aI, cI, rfl, hSI, hnI, hEI⟩
  have hE3 : Ext w w3 := (hE1.trans hE2).trans hEI
  have hSM3 := (hSM.ext hE2).ext hEI
  have iq := ints_same (c := cI) (d := cM) hSI.inp hSM3.inp (by omega)
  have lv3 := lv.at hE3
  have rm3 := rm.at hE3
  have rr3 := rr.at hE3
  have od3 := od.at hE3
  have hp3 := hE3.at hp
  have hpl3 := lt_of_heap hp3
  clear lv rm rr od hSM hnM hnI hEI hEM hp hpl
  refine de_ ?_
  refine xn_ fun w4 hE4 hs4 => ?_
  have hE4w := hE3.trans hE4
  have hSM4 := hSM3.ext hE4
  clear lv3 rm3 rr3 od3 iq hSM3 hSI
  refine w_ fun d => ?_
  refine lo_ (fun _ e w' => ∃ k : Nat, k ≤ s.all.length ∧ e 6 = .int .i64 k ∧ Ext w4 w') (fun e _ => s.all.length - nat (e 6)) ?_ ?_
  · exact ⟨0, by omega, eA rfl, ext_⟩
  rintro e u hf ⟨k, hk, h6, hEu⟩
  have hsu := sz_ hEu
  have hEuw := hE4w.trans hEu
  by_cases hlt : k < s.all.length
  · obtain ⟨n, hn⟩ : ∃ n, s.all[k]? = some n := ⟨s.all[k], List.getElem?_eq_getElem hlt⟩
    have hhas := Ws.mem_all.1 (List.mem_of_getElem? hn)
    have hl := Ws.lt hhas
    have n1 := stNode_calls (hI.ext hEuw) Ws n (by omega)
    have n2 := rsNode_calls (hM.ext hEuw) Ws n (by omega)
    have hnd : s.node n = (s.nd n, true) := by unfold Md.node; rw [hhas]; rfl
    rw [hnd] at n1 n2
    obtain ⟨z, hz⟩ : ∃ z, s.nd n = z := ⟨_, rfl⟩
    rw [hz] at n1 n2
    obtain ⟨a, b, c⟩ := z
    simp only [ndV] at n1 n2
    obtain ⟨g, cur, rfl, hg, hc, _, hat⟩ := (hSM4.ext hEu).at (i := k) (v := .int .i64 n) (by rw [List.getElem?_map, hn]; rfl)
    rw [List.length_map] at hc
    have hgl := lt_of_heap hg
    have hltk : (k : Int) < s.all.length := by omega
    clear hnd hz hhas hl hn hSM4 hI hM G Ws
    refine w_ fun d => ?_
    refine qq n1 fun u2 hE5 hs5 => ?_
    have hg5 := hE5.at hg
    refine w_ fun d => ?_
    refine qq n2 fun u3 hE6 hs6 => ?_
    refine w_ fun d => ?_
    exact ⟨⟨k + 1, by omega, eA rfl, ext_⟩, mA⟩
  · obtain rfl : k = s.all.length := by omega
    clear hSM4
    refine w_ fun d => ?_
    exact ⟨rfl, ext_⟩
abbrev Dd07 := Int × Int × Int × Int × Bool
def encD (d : Dd07) : List Value := [.int .i64 d.1, .int .i64 d.2.1, .int .i64 d.2.2.1, .int .i64 d.2.2.2.1, .bool d.2.2.2.2]
def okI (n : Int) : Prop := -9223372036854775808 ≤ n ∧ n ≤ 9223372036854775807
theorem do_calls {q a b c : Int} {raw : Bool} (h : PrI W w ps pm s s) (G : s.Good []) (ha : okI a) (hb : okI b) (hc : okI c) :
    CallsR Try.prog 20 #[.pointer (some ⟨ps, 0, none⟩), .pointer (some ⟨pm, 0, none⟩), .agg #[.int .i64 q, .int .i64 a, .int .i64 b, .int .i64 c, .bool raw]] w fun r w' => ∃ s', r = .int .i64 1 ∧ PrI W w' ps pm s' s' ∧ s'.Good [] := by
  have Ws := G.wf
  obtain ⟨ownI, hI⟩ := h.i
  obtain ⟨ownM, hM⟩ := h.m
  have la := lnode_calls hM Ws a raw
  have lb := lnode_calls hM Ws b raw
  have lc := lnode_calls hM Ws c raw
  have pa := pickN_le (raw := raw) Ws ha.2
  have pb := pickN_le (raw := raw) Ws hb.2
  have pc := pickN_le (raw := raw) Ws hc.2
  have pq := pick_sure q 8 (by decide) (by decide)
  have p7 := pick_sure a 7 (by decide) (by decide)
  have p8 := pick_sure a 8 (by decide) (by decide)
  have q0 : 0 ≤ q % 8 ∧ q % 8 < 8 := ⟨Int.emod_nonneg _ (by decide), Int.emod_lt_of_pos _ (by decide)⟩
  generalize q % 8 = wq at pq q0
  have mk_i : ∀ f (args : Array Value) (R : Value → Prop) (sn : Md), (∀ u own, Ext w u → StI own u ps s [] → CallsR Try.prog f args u fun r w' => R r ∧ TrI own u ps sn [] w') → ∀ u, Ext w u → CallsR Try.prog f args u fun r w' => R r ∧ PrI W w' ps pm sn s :=
    fun f args R sn hh u hu => (h.ext hu).turnI fun own ho => hh u own hu ho
  have mk_m : ∀ f (args : Array Value) (R : Value → Prop) (sn : Md), (∀ u own, RsI own u pm s → CallsR Try.prog f args u fun r w' => R r ∧ TrS own u pm sn w') → ∀ u s1, PrI W u ps pm s1 s → CallsR Try.prog f args u fun r w' => R r ∧ PrI W w' ps pm s1 sn :=
    fun f args R sn hh u s1 hu => hu.turnM fun own ho => hh u own ho
  have cF := mk_i _ _ _ _ fun u own hu ho => stFree_calls ho G pa
  have cFm := mk_m _ _ _ _ fun u own ho => rsFree_calls ho Ws pa
  have cS := fun l => mk_i _ _ _ _ fun u own hu ho => stSwap_calls ho G l
  have cSm := fun l => mk_m _ _ _ _ fun u own ho => rsSwap_calls ho G l
  have cM := fun v => mk_i _ _ _ _ fun u own hu ho => stMk_calls (v := v) ho G pb pc
  have cMm := fun v => mk_m _ _ _ _ fun u own ho => rsMkP_calls (v := v) ho Ws pb pc
  have cN := fun u (hu : Ext w u) (hn : a ≤ 9223372036854775807) => stNode_calls (hI.ext hu) Ws a hn
  have cNm := fun u (hu : Ext w u) (hn : a ≤ 9223372036854775807) => rsNode_calls (hM.ext hu) Ws a hn
  have gF := (G.free (pickN s a raw)).1
  have gS := fun l => (G.swap l).1.good
  have gM := fun v => (G.mks v (pickN s b raw) (pickN s c raw)).1
  have rF := code_sure _ (free_rng (s := s) (n := pickN s a raw)).1 (free_rng (s := s) (n := pickN s a raw)).2
  have rS := fun l => code_sure _ (swap_rng (s := s) (n := l)).1 (swap_rng (s := s) (n := l)).2
  have rM := fun v => code_sure _ (mk_rng (v := v) (lo := pickN s b raw) (hi := pickN s c raw) Ws).1 (mk_rng (v := v) (lo := pickN s b raw) (hi := pickN s c raw) Ws).2
  clear hI hM mk_i mk_m
  have ha2 := ha.2
  have G0 := G
  clear ha hb hc G Ws
  generalize pickN s a raw = pA at *
  generalize pickN s b raw = pB at *
  generalize pickN s c raw = pC at *
  refine en3 Try.func20 Try.results20 mixed [] ?_
  intro e0 h0 h1 h2
  refine w_ fun d => ?_
  refine qq lb fun w1 hE1 hs1 => ?_
  refine w_ fun d => ?_
  refine qq lc fun w2 hE2 hs2 => ?_
  refine w_ fun d => ?_
  refine qq (pq.quiet (w := w2)) fun w3 hE3 hs3 => ?_
  have hE03 : Ext w w3 := ext_
  have hbx : w3.heap[w.heap.size]? = some (.cells #[.int .i64 q, .int .i64 a, .int .i64 b, .int .i64 c, .bool raw] 31) := hE3.at (hE2.at (hE1.at (hA rfl)))
  have hbl := lt_of_heap hbx
  clear hE1 hE2 hE3 hs1 hs2 hs3 lb lc pq
  clear w1 w2
  by_cases e4 : wq = 4
  · subst e4
    clear cS cSm cM cMm cN cNm gS gM rS rM p7 p8
    obtain ⟨c0, hc0⟩ : ∃ c0, (s.free pA).1 = c0 := ⟨_, rfl⟩
    obtain ⟨s1, hs1⟩ : ∃ s1, (s.free pA).2 = s1 := ⟨_, rfl⟩
    rw [hc0] at rF
    rw [hs1] at gF
    simp only [hc0, hs1] at cF cFm
    refine w_ fun d => ?_
    refine qq la fun w4 hE4 hs4 => ?_
    have hE04 := hE03.trans hE4
    refine w_ fun d => ?_
    refine (cF _ hE04).mono ?_
    rintro _ w5 ⟨rfl, hP5⟩
    refine w_ fun d => ?_
    refine qq (rF.quiet (w := w5)) fun w6 hE6 hs6 => ?_
    refine w_ fun d => ?_
    refine (cFm _ _ (hP5.ext hE6)).mono ?_
    rintro _ w7 ⟨rfl, hP7⟩
    refine w_ fun d => ?_
    exact ⟨s1, rfl, hP7, gF⟩
  have n4 : (wq == 4) = false := by simpa using e4
  by_cases e5 : wq = 5
  · subst e5
    clear cF cFm cM cMm cN cNm gF gM rF rM p8 la
    generalize a % 7 = l7 at p7
    have gS := gS l7
    have rS := rS l7
    have cS := cS l7
    have cSm := cSm l7
    obtain ⟨c0, hc0⟩ : ∃ c0, (s.swap l7).1 = c0 := ⟨_, rfl⟩
    obtain ⟨s1, hs1⟩ : ∃ s1, (s.swap l7).2 = s1 := ⟨_, rfl⟩
    rw [hc0] at rS
    rw [hs1] at gS
    simp only [hc0, hs1] at cS cSm
    refine w_ fun d => ?_
    refine qq (p7.quiet (w := w3)) fun w4 hE4 hs4 => ?_
    have hE04 := hE03.trans hE4
    refine w_ fun d => ?_
    refine (cS _ hE04).mono ?_
    rintro _ w5 ⟨rfl, hP5⟩
    refine w_ fun d => ?_
    refine qq (rS.quiet (w := w5)) fun w6 hE6 hs6 => ?_
    refine w_ fun d => ?_
    refine (cSm _ _ (hP5.ext hE6)).mono ?_
    rintro _ w7 ⟨rfl, hP7⟩
    refine w_ fun d => ?_
    exact ⟨s1, rfl, hP7, gS⟩
  have n5 : (wq == 5) = false := by simpa using e5
  by_cases e6 : wq = 6
  · subst e6
    clear cF cFm cM cMm cS cSm gF gM rF rM p8 la gS rS p7
    have n1 := cN _ hE03 ha2
    have n2 := cNm _ hE03 ha2
    clear cN cNm
    obtain ⟨z, hz⟩ : ∃ z, s.node a = z := ⟨_, rfl⟩
    rw [hz] at n1 n2
    obtain ⟨⟨x, y, z⟩, bb⟩ := z
    simp only [ndV] at n1 n2
    clear hz
    refine w_ fun d => ?_
    refine qq n1 fun w4 hE4 hs4 => ?_
    refine w_ fun d => ?_
    refine qq n2 fun w5 hE5 hs5 => ?_
    refine w_ fun d => ?_
    exact ⟨s, rfl, (h.ext hE03).ext ext_, G0⟩
  have n6 : (wq == 6) = false := by simpa using e6
  by_cases e7 : wq = 7
  · subst e7
    clear cF cFm cM cMm cN cNm gF gM rF rM p8 la p7
    have gS := gS a
    have rS := rS a
    have cS := cS a
    have cSm := cSm a
    obtain ⟨c0, hc0⟩ : ∃ c0, (s.swap a).1 = c0 := ⟨_, rfl⟩
    obtain ⟨s1, hs1⟩ : ∃ s1, (s.swap a).2 = s1 := ⟨_, rfl⟩
    rw [hc0] at rS
    rw [hs1] at gS
    simp only [hc0, hs1] at cS cSm
    refine w_ fun d => ?_
    refine (cS _ hE03).mono ?_
    rintro _ w5 ⟨rfl, hP5⟩
    refine w_ fun d => ?_
    refine qq (rS.quiet (w := w5)) fun w6 hE6 hs6 => ?_
    refine w_ fun d => ?_
    refine (cSm _ _ (hP5.ext hE6)).mono ?_
    rintro _ w7 ⟨rfl, hP7⟩
    refine w_ fun d => ?_
    exact ⟨s1, rfl, hP7, gS⟩
  have n7 : (wq == 7) = false := by simpa using e7
  clear cF cFm cS cSm cN cNm gF gS rF rS p7 la
  have fin : ∀ v : Int, ∃ c0 e0 s1, (∀ u, Ext w u → CallsR Try.prog 82 #[.pointer (some ⟨ps, 0, none⟩), .int .i64 v, .int .i64 pB, .int .i64 pC] u fun r w' => r = .tuple #[.int .i64 c0, errV e0] ∧ PrI W w' ps pm s1 s) ∧
      (∀ u s1', PrI W u ps pm s1' s → CallsR Try.prog 89 #[.pointer (some ⟨pm, 0, none⟩), .int .i64 v, .int .i64 pB, .int .i64 pC] u fun r w' => r = .tuple #[.int .i64 c0, .int .i64 e0] ∧ PrI W w' ps pm s1' s1) ∧ Sure Try.prog 29 #[errV e0] (.int .i64 e0) ∧ s1.Good [] :=
    fun v => ⟨_, _, _, cM v, cMm v, rM v, gM v⟩
  clear cM cMm rM gM
  cases raw
  · obtain ⟨c0, e0, s1, cM, cMm, rM, gM⟩ := fin (a % 8)
    generalize a % 8 = l8 at p8 cM cMm
    clear fin
    refine w_ fun d => ?_
    refine qq (p8.quiet (w := w3)) fun w4 hE4 hs4 => ?_
    have hE04 := hE03.trans hE4
    refine w_ fun d => ?_
    refine (cM _ hE04).mono ?_
    rintro _ w5 ⟨rfl, hP5⟩
    refine w_ fun d => ?_
    refine (cMm _ _ hP5).mono ?_
    rintro _ w6 ⟨rfl, hP6⟩
    refine w_ fun d => ?_
    refine qq (rM.quiet (w := w6)) fun w7 hE7 hs7 => ?_
    refine w_ fun d => ?_
    exact ⟨s1, rfl, hP6.ext ext_, gM⟩
  · obtain ⟨c0, e0, s1, cM, cMm, rM, gM⟩ := fin a
    clear fin p8
    refine w_ fun d => ?_
    refine (cM _ hE03).mono ?_
    rintro _ w5 ⟨rfl, hP5⟩
    refine w_ fun d => ?_
    refine (cMm _ _ hP5).mono ?_
    rintro _ w6 ⟨rfl, hP6⟩
    refine w_ fun d => ?_
    refine qq (rM.quiet (w := w6)) fun w7 hE7 hs7 => ?_
    refine w_ fun d => ?_
    exact ⟨s1, rfl, hP6.ext ext_, gM⟩
end
end Go.Proofs.Ytpeindhocndmnaa

namespace Go.Proofs.Ytpeindhocndmnaa
open Go Go.Bx
set_option linter.unusedSimpArgs false
set_option linter.unusedVariables false
set_option maxRecDepth 100000
set_option maxHeartbeats 4000000
attribute [local irreducible] X XO XE XF XD XW thenX inX retX kN CallsR
section
variable {W w w' w1 w2 : World} {p ps pm : Nat} {s s' sM : Md} {n v x y lo hi : Int}
def OneI (W w : World) (ps : Nat) (s : Md) : Prop := ∃ own, StI own w ps s [] ∧ (∀ k, own k ≠ 0 → W.heap.size ≤ k) ∧ Ext W w
theorem OneI.new {most : Int} (h0' : 0 ≤ most) (h1' : most ≤ 20000) (w : World) : CallsR Try.prog 19 #[.int .i64 most] w fun r w' => ∃ p, r = .pointer (some ⟨p, 0, none⟩) ∧ OneI w w' p (Md.new most) := by
  refine (stNew_calls most h0' h1' w).mono ?_
  rintro r w' ⟨own, p, rfl, h, ho, hE⟩
  exact ⟨p, rfl, own, h, ho, hE⟩
theorem begin_calls (most : Int) (h0' : 0 ≤ most) (h1' : most ≤ 20000) (w : World) :
    CallsR Try.prog 18 #[.int .i64 most] w fun r w' => ∃ ps pm, r = .tuple #[.pointer (some ⟨ps, 0, none⟩), .pointer (some ⟨pm, 0, none⟩)] ∧ PrI w w' ps pm (Md.new most) (Md.new most) := by
  have c0 := stNew_calls most h0' h1'
  have c1 := rsNew_calls most h0' h1'
  refine en1 Try.func18 Try.results18 mixed [] ?_
  intro e0 h0
  refine w_ fun d => ?_
  refine (c0 _).mono ?_
  rintro _ w1 ⟨own, p, rfl, hI, ho, hE⟩
  have hE1 : Ext w w1 := Ext.trans (by exact ext_) hE
  have ho' : ∀ k, own k ≠ 0 → w.heap.size ≤ k := fun k hk => by have := ho k hk; simpa only [dr_heap] using this
  clear ho hE
  refine w_ fun d => ?_
  refine (c1 _).mono ?_
  rintro _ w2 ⟨ownM, pm, rfl, hM, hoM, hE2⟩
  have hoM' : ∀ k, ownM k ≠ 0 → w1.heap.size ≤ k := fun k hk => by have := hoM k hk; simpa only [dr_heap] using this
  have hE12 : Ext w1 w2 := Ext.trans (by exact ext_) hE2
  have hs1 := hE1.size
  refine w_ fun d => ?_
  refine ⟨p, pm, rfl, own, ownM, hI.ext hE12, hM, fun k hk => ?_, ho', fun k hk => by have := hoM' k hk; omega, hE1.trans hE12⟩
  have := hI.lt k hk
  cases hm : ownM k with
  | zero => rfl
  | succ m => have := hoM' k (by omega); omega
theorem begin_none (most : Int) (h : ¬ (0 ≤ most ∧ most ≤ 20000)) : Sure Try.prog 18 #[.int .i64 most] (.tuple #[.pointer none, .pointer none]) := by
  intro w
  have c0 := stNew_none most h
  clear h
  refine en1 Try.func18 Try.results18 mixed [] ?_
  intro e0 h0
  refine w_ fun d => ?_
  refine qq (c0.quiet (w := w)) fun w1 hE1 hs1 => ?_
  refine w_ fun d => ?_
  exact ⟨rfl, ext_⟩
end
end Go.Proofs.Ytpeindhocndmnaa

namespace Go.Proofs.Ytpeindhocndmnaa
open Go Go.Bx
set_option linter.unusedSimpArgs false
set_option linter.unusedVariables false
set_option maxRecDepth 100000
set_option maxHeartbeats 4000000
attribute [local irreducible] X XO XE XF XD XW thenX inX retX kN CallsR
section
variable {W w w' w1 w2 : World} {p ps pm : Nat} {s s' sM : Md} {n v x y lo hi : Int}
def okD (d : Dd07) : Prop := okI d.2.1 ∧ okI d.2.2.1 ∧ okI d.2.2.2.1
theorem deedAt {a : Option Addr} {l : List Dd07} {i : Nat} {q b c d : Int} {r : Bool} (h : Inp w 5 a (l.map encD)) (hd : l[i]? = some (q, b, c, d, r)) :
    ∃ g o cs E fz, a = some ⟨g, o, none⟩ ∧ w.heap[g]? = some (.cells cs E fz) ∧ o + i * 5 + 5 ≤ cs.size ∧ cs.extract (o + i * 5) (o + i * 5 + 5) = #[.int .i64 q, .int .i64 b, .int .i64 c, .int .i64 d, .bool r] := by
  rcases h with h | ⟨g, o, cs, E, fz, rfl, h2, h3⟩
  · rw [List.map_eq_nil_iff.1 h] at hd; simp at hd
  · have hr := h3 i (encD (q, b, c, d, r)) (by rw [List.getElem?_map, hd]; rfl)
    have c0 := hr 0 _ rfl
    have c1 := hr 1 _ rfl
    have c2 := hr 2 _ rfl
    have c3 := hr 3 _ rfl
    have c4 := hr 4 _ rfl
    have hs := (Array.getElem?_eq_some_iff.1 c4).1
    refine ⟨g, o, cs, E, fz, rfl, h2, by omega, ?_⟩
    apply Array.ext_getElem?
    intro j
    rw [Array.getElem?_extract]
    match j with
    | 0 => rw [if_pos (by omega), Nat.add_zero]; simpa using c0
    | 1 => rw [if_pos (by omega)]; simpa [Nat.add_assoc] using c1
    | 2 => rw [if_pos (by omega)]; simpa [Nat.add_assoc] using c2
    | 3 => rw [if_pos (by omega)]; simpa [Nat.add_assoc] using c3
    | 4 => rw [if_pos (by omega)]; simpa [Nat.add_assoc] using c4
    | j + 5 => rw [if_neg (by omega)]; simp
end
end Go.Proofs.Ytpeindhocndmnaa

namespace Go.Bx
open Go Go.ChangeShapes Go.WideShapes Go.ChangeAt Go.RowKit
theorem Ext.below {W W' : World} (h : Ext W W') : Below W.heap.size W W' := ⟨h.os, h.tape, h.output, h.size, h.heap⟩
section
variable {H : Type} {enc : TypeId × Value → H} {P : Program}
theorem trodAll_stays (hl : laidOutB P = true) {W W' : World} (hE : Ext W W') : ∀ {ts : List TypeId} {vs : List Value} {ds : List (DataW H)} {ps : List MemPlace},
    (∀ t ∈ ts, P.readableRec t = true ∧ t < P.types.size) → DataW.TrodAll enc P W 0 (fun _ => true) true ts vs ds ps → (∀ x ∈ ps, x.block < W.heap.size) →
    DataW.TrodAll enc P W' 0 (fun b => decide (b < W.heap.size)) true ts vs ds ps
  | [], [], [], _, _, h, _ => h
  | t :: ts, v :: vs, d :: ds, _, ht, ⟨p, q, h, hs, e⟩, hlt =>
    ⟨p, q, Below.trod hl (ht t (by simp)).1 (ht t (by simp)).2 h hE.below (fun x hx => hlt x (by rw [e]; exact List.mem_append_left _ hx)),
      trodAll_stays hl hE (fun t hm => ht t (by simp [hm])) hs (fun x hx => hlt x (by rw [e]; exact List.mem_append_right _ hx)), e⟩
  | [], [], _ :: _, _, _, h, _ => h.elim
  | [], _ :: _, _, _, _, h, _ => by cases ‹List (DataW H)› <;> exact h.elim
  | _ :: _, [], _, _, _, h, _ => by cases ‹List (DataW H)› <;> exact h.elim
  | _ :: _, _ :: _, [], _, _, h, _ => h.elim
theorem law_post {f : Func} {s : ChangeSpec} {W W' : World} {args : Array Value} {ds gs : List (DataW H)} {before : List MemPlace} {tb : TypeId}
    (hl : laidOutB P = true) (hts : f.params.toList.all (fun t => P.readableRec t && decide (t < P.types.size)) = true) (hv : s.vars = []) (hrt : f.resultTypes = #[tb]) (hb : P.underlying tb = some .bool)
    (hW : DataW.Whole enc P f.params.toList s.vars false W args.toList ds gs before)
    (hfn : (s.fn H (ds ++ gs)).results = [.lit (.bool true)] ∧ (s.fn H (ds ++ gs)).args = ds ∧ (s.fn H (ds ++ gs)).vars = [])
    (hE : Ext W W') : s.post enc P f false true false false W args (.bool true) W' := by
  have hW' := hW
  obtain ⟨p, q, hA, hV, rfl, _, _⟩ := hW
  rw [hv] at hV
  obtain ⟨rfl, rfl⟩ := trodVars_none hV
  have hlt : ∀ x ∈ p, x.block < W.heap.size := fun x hx => hW'.lt x (by simpa using hx)
  refine ⟨ds, [], _, [], p, [], hW', ?_, ?_, ?_, hE.below.frame _, fun h => by cases h⟩
  · rw [hfn.1, hrt]
    exact trodAll_mk1 (shut_bool hb true)
  · rw [hfn.2.1]
    refine trodAll_stays hl hE (fun t ht => ?_) hA hlt
    have := List.all_eq_true.1 hts t ht
    simpa [Bool.and_eq_true] using this
  · rw [hfn.2.2, hv]
    exact rfl
theorem exists_list {α : Type} {p : Nat → α → Prop} : ∀ (n : Nat), (∀ i, i < n → ∃ y, p i y) → ∃ ys : List α, ys.length = n ∧ ∀ i y, ys[i]? = some y → p i y
  | 0, _ => ⟨[], rfl, fun i y h => by cases h⟩
  | n + 1, h => by
    obtain ⟨ys, hl, hy⟩ := exists_list n (fun i hi => h i (by omega))
    obtain ⟨y, hp⟩ := h n (by omega)
    refine ⟨ys ++ [y], by simp [hl], fun i z hz => ?_⟩
    rw [List.getElem?_append] at hz
    split at hz
    · exact hy i z hz
    · rename_i hge
      have hi : i = n := by
        have := (List.getElem?_eq_some_iff.1 hz).1
        simp at this; omega
      subst hi
      have : i - ys.length = 0 := by omega
      rw [this] at hz
      cases hz
      exact hp
theorem rd1_some {o : Option Obj} {i : Nat} {u : Value} (h : rd1 o i = some u) : ∃ c E fz, o = some (.cells c E fz) ∧ c[i]? = some u := by
  unfold rd1 at h
  split at h
  · exact ⟨_, _, _, rfl, h⟩
  · cases h
theorem trod_rows {α : Type} {W : World} {base : Nat} {spare : Nat → Bool} {held : Bool} {fuel t E s : Nat} {cs : List Value} {x : DataW H × List MemPlace} (ht : P.underlying t = some (.slice E)) (hs : P.cellsOf E = s) (hs0 : 0 < s) {f : α → List Value} {good : α → Prop}
    (dec : ∀ n cs x, DataW.trod enc P W base spare held n E cs = some x → ∃ y, cs = f y ∧ good y) (h : DataW.trod enc P W base spare held fuel t cs = some x) :
    ∃ (ys : List α) (a : Option Addr) (cap : Nat), cs = [.slice a ys.length cap] ∧ Inp W s a (ys.map f) ∧ (∀ y ∈ ys, good y) ∧ ys.length ≤ cap ∧ cap ≤ maxLen := by
  rcases DataW.trod_slice ht h with ⟨h0, _⟩ | ⟨a, len, cap, elems, rest, n, _, rfl, _, hb, hl, hm, hlen, hel, _, _⟩
  · exact ⟨[], none, 0, h0, .inl rfl, (fun y hy => by cases hy), by simp, by simp⟩
  · rw [hs] at hel
    have hrow : ∀ i, i < len → ∃ y : α, W.cells? base (a.add (i * s)) s = some (f y) ∧ good y := by
      intro i hi
      have h1 := hel i hi
      rw [List.getElem?_eq_getElem (show i < elems.length by omega)] at h1
      obtain ⟨ci, h2, h3⟩ := Option.bind_eq_some_iff.1 h1
      obtain ⟨y, rfl, hg⟩ := dec _ _ _ h3
      exact ⟨y, h2, hg⟩
    obtain ⟨ys, hyl, hy⟩ := exists_list len hrow
    refine ⟨ys, some a, cap, by rw [hyl], ?_, fun y hm => ?_, by omega, hm⟩
    · by_cases h0 : len = 0
      · subst h0
        left
        rw [List.length_eq_zero_iff.1 hyl]; rfl
      · right
        have hcell : ∀ i y, ys[i]? = some y → ∀ j u, (f y)[j]? = some u → W.cell? ((a.add (i * s)).add j) = some u := by
          intro i y hiy j u hj
          have h1 := (hy i y hiy).1
          unfold World.cells? at h1
          split at h1
          · have hlen2 : (f y).length = s := by simpa using mapM_some_length h1
            have hjs : j < s := by have := (List.getElem?_eq_some_iff.1 hj).1; omega
            have h2 := mapM_some_get h1 j j (by simp [hjs])
            rw [hj] at h2
            exact h2
          · cases h1
        obtain ⟨y0, hy0⟩ : ∃ y, ys[0]? = some y := ⟨ys[0]'(by omega), List.getElem?_eq_getElem (by omega)⟩
        have hlen0 : (f y0).length = s := by
          have h1 := (hy 0 y0 hy0).1
          unfold World.cells? at h1
          split at h1
          · simpa using mapM_some_length h1
          · cases h1
        obtain ⟨u0, hu0⟩ : ∃ u, (f y0)[0]? = some u := ⟨(f y0)[0]'(by omega), List.getElem?_eq_getElem (by omega)⟩
        have hc0 := hcell 0 y0 hy0 0 u0 hu0
        obtain ⟨b, off, spot⟩ := a
        have hspot : spot = none := by simpa [Addr.add] using World.cell?_spot hc0
        subst hspot
        simp only [add_none, Nat.add_assoc, cell_rd1] at hcell hc0
        obtain ⟨c, E', fz, hbk, _⟩ := rd1_some hc0
        refine ⟨b, off, c, E', fz, rfl, hbk, fun i x hx j u hj => ?_⟩
        rw [List.getElem?_map] at hx
        obtain ⟨y, hiy, rfl⟩ := Option.map_eq_some_iff.1 hx
        have := hcell i y hiy j u hj
        rw [hbk] at this
        rw [Nat.add_assoc]
        exact this
    · obtain ⟨i, hi⟩ := List.mem_iff_getElem?.1 hm
      exact (hy i y hi).2
theorem open_rows {α : Type} {r : Reach} {b0 : Nat} {W : World} {base : Nat} {spare : Nat → Bool} {held : Bool} {t E s : Nat} {v : Value} {d : DataW H} {ps : List MemPlace} (ht : P.underlying t = some (.slice E)) (hs : P.cellsOf E = s) (hs0 : 0 < s) {f : α → List Value} {good : α → Prop}
    (dec : ∀ n cs x, DataW.trod enc P W base spare held n E cs = some x → ∃ y, cs = f y ∧ good y) (hval : Value.okWide P W r b0 t v) (hd : DataW.Trod enc P W base spare held t v d ps) :
    ∃ (ys : List α) (a : Option Addr) (cap : Nat), v = .slice a ys.length cap ∧ Inp W s a (ys.map f) ∧ (∀ y ∈ ys, good y) ∧ ys.length ≤ cap ∧ cap ≤ maxLen := by
  obtain ⟨a, len, cap, rfl⟩ := okWide_slice ht hval
  obtain ⟨fuel, hf⟩ := hd
  obtain ⟨ys, a', cap', h1, h2⟩ := trod_rows ht hs hs0 dec hf
  have h3 : [Value.slice a len cap] = [.slice a' ys.length cap'] := h1
  cases h3
  exact ⟨ys, _, _, rfl, h2⟩
theorem dec_int {W : World} {base : Nat} {spare : Nat → Bool} {held : Bool} {E : Nat} {k : IntKind} (hE : P.underlying E = some (.int k)) : ∀ n cs x, DataW.trod enc P W base spare held n E cs = some x → ∃ y : Int, cs = [.int k y] ∧ (Lit.int k y).wf = true := by
  intro n cs x h
  obtain ⟨y, h1, _, h2⟩ := DataW.trod_int hE h
  exact ⟨y, h1, h2⟩
theorem sl_sized {w : World} {base : Nat} {spare : Nat → Bool} {held : Bool} {t E n c : Nat} {a : Option Addr} {d : DataW H} {ps : List MemPlace} {ts : List TypeId} {ds : List (DataW H)} (ht : P.underlying t = some (.slice E)) (hb : 0 < P.bytesOf E)
    (hsz : (DataW.weightsEach P ts ds).all (· ≤ reachBytes) = true) (j : Nat) (hj : ts[j]? = some t) (hdj : ds[j]? = some d) (hd : DataW.Trod enc P w base spare held t (.slice a n c) d ps) : n ≤ 140737488351232 := by
  obtain ⟨fuel, hf⟩ := hd
  rcases DataW.trod_slice ht hf with ⟨h0, _⟩ | ⟨a', len, cap, elems, rest, m, _, h0, h1, _, _, _, hl, _⟩
  · have : [Value.slice a n c] = [.slice none 0 0] := h0
    cases this; exact Nat.zero_le _
  · have : [Value.slice a n c] = [.slice (some a') len cap] := h0
    cases this
    cases h1
    have := sized_slice hsz hj hdj ht
    rw [List.length_map, List.length_map, hl] at this
    have h2 : n * 1 ≤ (n + rest.length) * P.bytesOf E := Nat.mul_le_mul (Nat.le_add_right _ _) hb
    have h3 : reachBytes = 140737488351232 := by decide
    omega
end
end Go.Bx

namespace Go.Bx
open Go Go.ChangeShapes Go.WideShapes Go.ChangeAt Go.RowKit
end Go.Bx

namespace Go.Proofs.Ytpeindhocndmnaa
open Go Go.Bx Go.ChangeShapes Go.WideShapes Go.ChangeAt Go.RowKit
set_option linter.unusedVariables false
set_option maxRecDepth 100000
theorem own : ownKnob Try.prog.godebug = none := by kernel_rfl
theorem laidOut : laidOutB Try.prog = true := by kernel_rfl
theorem wf_i64 {x : Int} (h : (Lit.int .i64 x).wf = true) : okI x := by
  simp [Lit.wf] at h
  have h1 : IntKind.i64.min = -9223372036854775808 := by decide +kernel
  have h2 : IntKind.i64.max = 9223372036854775807 := by decide +kernel
  unfold okI; omega
theorem dec_deed07 {H : Type} {enc : TypeId × Value → H} {W : World} {base : Nat} {spare : Nat → Bool} {held : Bool} : ∀ n cs x, DataW.trod enc Try.prog W base spare held n 31 cs = some x → ∃ y : Dd07, cs = encD y ∧ okD y := by
  intro n cs x h
  obtain ⟨xs, m, rfl, _, hl, hxl, hf⟩ := DataW.trod_struct Try.underlying31 h
  have hc3 : Try.prog.cellsOf 3 = 1 := by kernel_rfl
  have hc4 : Try.prog.cellsOf 4 = 1 := by kernel_rfl
  have hc : Try.prog.cellsOf 31 = 5 := by kernel_rfl
  rw [hc] at hl
  match cs, hl with
  | [c0, c1, c2, c3, c4], _ =>
    match xs, hxl with
    | [x0, x1, x2, x3, x4], _ =>
      have h0 := hf 0 _ rfl
      have h1 := hf 1 _ rfl
      have h2 := hf 2 _ rfl
      have h3 := hf 3 _ rfl
      have h4 := hf 4 _ rfl
      obtain ⟨y0, e0, _, g0⟩ := DataW.trod_int Try.underlying3 h0
      obtain ⟨y1, e1, _, g1⟩ := DataW.trod_int Try.underlying3 h1
      obtain ⟨y2, e2, _, g2⟩ := DataW.trod_int Try.underlying3 h2
      obtain ⟨y3, e3, _, g3⟩ := DataW.trod_int Try.underlying3 h3
      obtain ⟨y4, e4, _⟩ := DataW.trod_bool Try.underlying4 h4
      simp [hc3, hc4] at e0 e1 e2 e3 e4
      subst e0 e1 e2 e3 e4
      exact ⟨(y0, y1, y2, y3, y4), rfl, wf_i64 g1, wf_i64 g2, wf_i64 g3⟩
end Go.Proofs.Ytpeindhocndmnaa

namespace Go.Proofs.Ytpeindhocndmnaa
open Go Go.Bx
set_option linter.unusedSimpArgs false
set_option linter.unusedVariables false
set_option maxRecDepth 100000
set_option maxHeartbeats 4000000
attribute [local irreducible] X XO XE XF XD XW thenX inX retX kN CallsR
end Go.Proofs.Ytpeindhocndmnaa

namespace Go.Proofs.Ytpeindhocndmnaa
open Go Go.Bx
set_option linter.unusedSimpArgs false
set_option linter.unusedVariables false
set_option maxRecDepth 100000
set_option maxHeartbeats 4000000
attribute [local irreducible] X XO XE XF XD XW thenX inX retX kN CallsR
end Go.Proofs.Ytpeindhocndmnaa

namespace Go.Proofs.Ytpeindhocndmnaa
open Go Go.Bx
set_option linter.unusedSimpArgs false
set_option linter.unusedVariables false
set_option maxRecDepth 100000
set_option maxHeartbeats 4000000
attribute [local irreducible] X XO XE XF XD XW thenX inX retX kN CallsR
end Go.Proofs.Ytpeindhocndmnaa

namespace Go.Bx
open Go
set_option linter.unusedSimpArgs false
set_option linter.unusedVariables false
def topF (ord : List Int) (f : Fun8) : Int := (ord.find? (depF f)).getD (-1)
def kids (ord : List Int) (f : Fun8) : List Fun8 := if 0 ≤ topF ord f then [cofF f (topF ord f) false, cofF f (topF ord f) true] else []
inductive Rch (ord : List Int) (l : List Fun8) : Fun8 → Prop
  | base {f} : f ∈ l → Rch ord l f
  | step {g f} : Rch ord l g → f ∈ kids ord g → Rch ord l f
structure IsNodes (ord : List Int) (l ns : List Fun8) : Prop where
  nodup : ns.Nodup
  mem : ∀ f, f ∈ ns ↔ Rch ord l f ∧ supF f ≠ 0
open Classical in
noncomputable def sizeF (ord : List Int) (l : List Fun8) : Nat := if h : ∃ ns, IsNodes ord l ns then (Classical.choose h).length else 0
def nv (f : Fun8) : Nat := cnt (fun v => depF f v) 8
def wt (f : Fun8) : Nat := 3 ^ nv f
def wts (l : List Fun8) : Nat := (l.map wt).sum
section
variable {ord : List Int} {l keys work : List Fun8} {f : Fun8}
structure Dfs (ord : List Int) (l keys work : List Fun8) : Prop where
  nodup : keys.Nodup
  sn : ∀ f ∈ keys, Rch ord l f ∧ supF f ≠ 0
  wk : ∀ f ∈ work, Rch ord l f
  kd : ∀ f ∈ keys, ∀ g ∈ kids ord f, g ∈ keys ∨ g ∈ work ∨ supF g = 0
  all : ∀ g ∈ l, g ∈ keys ∨ g ∈ work ∨ supF g = 0
structure Bfs (ord : List Int) (l seen out work : List Fun8) (i : Nat) : Prop where
  le : i ≤ work.length
  sn : ∀ f, f ∈ seen ↔ f ∈ work.take i
  nodup : out.Nodup
  ot : ∀ f, f ∈ out ↔ f ∈ work.take i ∧ supF f ≠ 0
  wk : ∀ f ∈ work, Rch ord l f
  kd : ∀ f ∈ work.take i, ∀ g ∈ kids ord f, g ∈ work
  all : ∀ f ∈ l, f ∈ work
variable {seen out : List Fun8} {i : Nat}
end
end Go.Bx

namespace Go.Proofs.Ytpeindhocndmnaa
open Go Go.Bx
set_option linter.unusedSimpArgs false
set_option linter.unusedVariables false
set_option maxRecDepth 100000
set_option maxHeartbeats 4000000
attribute [local irreducible] X XO XE XF XD XW thenX inX retX kN CallsR
end Go.Proofs.Ytpeindhocndmnaa

namespace Go.Proofs.Ytpeindhocndmnaa
open Go Go.Bx
set_option linter.unusedSimpArgs false
set_option linter.unusedVariables false
set_option maxRecDepth 100000
set_option maxHeartbeats 4000000
attribute [local irreducible] X XO XE XF XD XW thenX inX retX kN CallsR
def supHi (f : Fun8) : Nat → Nat
  | 0 => 0
  | j + 1 => 2 * supHi f j + if depF f (7 - (j : Int)) then 1 else 0
end Go.Proofs.Ytpeindhocndmnaa

namespace Go.Proofs.Ytpeindhocndmnaa
open Go Go.Bx
set_option linter.unusedSimpArgs false
set_option linter.unusedVariables false
set_option maxRecDepth 100000
set_option maxHeartbeats 4000000
attribute [local irreducible] X XO XE XF XD XW thenX inX retX kN CallsR
def rowF (f : Fun8) : List Value := vcs (fv f)
def rowsF (l : List Fun8) : Array Value := (l.map rowF).flatten.toArray
attribute [-push_cast] bs65_0 bs65_1 bs65_2
abbrev SlF (w : World) (a : Option Addr) (cap : Nat) (l : List Fun8) : Prop := Sl w 54 4 a cap (l.map rowF)
structure SizeI (w : World) (oc : Array Value) (ord : List Int) (l : List Fun8) (n : Nat) (e : Env) (w' : World) (a : Option Addr) (cap ck : Nat) (es : List (Ent Fun8)) (work : List Fun8) : Prop where
  h6 : e 6 = .slice a work.length cap
  sl : SlF w' a cap work
  new : ∀ g, blk a = some g → w.heap.size + 2 ≤ g
  ho : w'.heap[w.heap.size]? = some (.cells oc 36 (0, 0))
  hm : w'.heap[w.heap.size + 1]? = some (mObj fv es ck)
  inv : MInv es ck
  one : ∀ e ∈ es, e.2.1 = .int .i64 1
  dfs : Dfs ord l (es.map (·.1)) work
  wt : wts work = n
  le : n ≤ 6561000
  ext : Ext w w'
structure NodesI (w : World) (oc : Array Value) (ord : List Int) (l : List Fun8) (n : Nat) (e : Env) (w' : World) (a ao : Option Addr) (cap capo ck i : Nat) (es : List (Ent Fun8)) (work out : List Fun8) : Prop where
  h5 : e 5 = .slice ao out.length capo
  h7 : e 7 = .slice a work.length cap
  h8 : e 8 = .int .i64 i
  sl : SlF w' a cap work
  slo : SlF w' ao capo out
  new : ∀ g, blk a = some g → w.heap.size + 2 ≤ g
  newo : ∀ g, blk ao = some g → w.heap.size + 2 ≤ g
  dis : ∀ g, blk a = some g → ¬ blk ao = some g
  ho : w'.heap[w.heap.size]? = some (.cells oc 36 (0, 0))
  hm : w'.heap[w.heap.size + 1]? = some (mObj fv es ck)
  inv : MInv es ck
  one : ∀ e ∈ es, e.2.1 = .int .i64 1
  bfs : Bfs ord l (es.map (·.1)) out work i
  wt : wts (work.drop i) = n
  le : i + n ≤ 6561000
  ext : Ext w w'
end Go.Proofs.Ytpeindhocndmnaa

namespace Go.Proofs.Ytpeindhocndmnaa
open Go Go.Bx Go.ChangeShapes Go.WideShapes Go.ChangeAt Go.RowKit
set_option linter.unusedVariables false
set_option maxRecDepth 100000
theorem dec_num {H : Type} {enc : TypeId × Value → H} {W : World} {base : Nat} {spare : Nat → Bool} {held : Bool} : ∀ n cs x, DataW.trod enc Try.prog W base spare held n 3 cs = some x → ∃ y : Int, cs = [.int .i64 y] ∧ okI y := by
  intro n cs x h
  obtain ⟨y, h1, h2⟩ := dec_int Try.underlying3 n cs x h
  exact ⟨y, h1, wf_i64 h2⟩
theorem inI_of {w : World} {a : Option Addr} {l : List Int} (h : Inp w 1 a (l.map fun y => [.int .i64 y])) : InI w a l := by
  show Inp w 1 a ((l.map (Value.int .i64)).map fun v => [v])
  rw [List.map_map]
  exact h
end Go.Proofs.Ytpeindhocndmnaa

namespace Go.Bx
open Go
set_option linter.unusedSimpArgs false
set_option linter.unusedVariables false
def Md.bldN : Nat → Md → Fun8 → (Int × Int) × Md
  | 0, s, f => ((if f.getLsbD 0 then 1 else 0, 0), s)
  | k + 1, s, f =>
    if topF s.ord f < 0 then ((if f.getLsbD 0 then 1 else 0, 0), s)
    else if (Md.bldN k s (cofF f (topF s.ord f) false)).1.2 ≠ 0 then ((0, (Md.bldN k s (cofF f (topF s.ord f) false)).1.2), (Md.bldN k s (cofF f (topF s.ord f) false)).2)
    else if (Md.bldN k (Md.bldN k s (cofF f (topF s.ord f) false)).2 (cofF f (topF s.ord f) true)).1.2 ≠ 0 then
      ((0, (Md.bldN k (Md.bldN k s (cofF f (topF s.ord f) false)).2 (cofF f (topF s.ord f) true)).1.2), (Md.bldN k (Md.bldN k s (cofF f (topF s.ord f) false)).2 (cofF f (topF s.ord f) true)).2)
    else (Md.bldN k (Md.bldN k s (cofF f (topF s.ord f) false)).2 (cofF f (topF s.ord f) true)).2.mk' [] (topF s.ord f) (Md.bldN k s (cofF f (topF s.ord f) false)).1.1 (Md.bldN k (Md.bldN k s (cofF f (topF s.ord f) false)).2 (cofF f (topF s.ord f) true)).1.1
def Md.bld (s : Md) (f : Fun8) : (Int × Int) × Md := Md.bldN 8 s f
def low8 (x : Nat) : Nat := setB (setB (setB (setB (setB (setB (setB (setB x 0 false) 1 false) 2 false) 3 false) 4 false) 5 false) 6 false) 7 false
section
variable {s s' : Md} {n m v lo hi : Int} {f g : Fun8} {ord : List Int}
structure Blt (s : Md) (f : Fun8) (r : (Int × Int) × Md) : Prop where
  good : r.2.Good []
  le : s.Le r.2
  res : (r.1.2 = 0 ∧ Den r.2 r.1.1 f) ∨ (r.1 = (0, 2) ∧ r.2.a.many = r.2.a.most)
end
end Go.Bx

namespace Go.Bx
open Go
set_option linter.unusedSimpArgs false
set_option linter.unusedVariables false
section
variable {s s' : Md} {n m v lo hi : Int} {f g h : Fun8}
def SplB (s : Md) (v : Int) (f : Fun8) : Prop :=
    ((s.bld (cofF f v false)).1 = (0, 2) ∧ s.bld f = s.bld (cofF f v false)) ∨
    (∃ n0 s0, s.bld (cofF f v false) = ((n0, 0), s0) ∧ s0.Good [] ∧ s.Le s0 ∧ Den s0 n0 (cofF f v false) ∧
      (((s0.bld (cofF f v true)).1 = (0, 2) ∧ s.bld f = s0.bld (cofF f v true)) ∨
      (∃ n1 s1, s0.bld (cofF f v true) = ((n1, 0), s1) ∧ s1.Good [] ∧ s0.Le s1 ∧ Den s1 n1 (cofF f v true) ∧ s.bld f = s1.mk' [] v n0 n1)))
def easyN (f g h : Int) : Option Int := if f = 1 ∨ g = h then some g else if f = 0 then some h else if g = 1 ∧ h = 0 then some f else none
def topN (s : Md) (l : List Int) : Int := (s.ord.find? fun v => l.any fun n => s.of n v).getD (-1)
end
end Go.Bx

namespace Go.Proofs.Ytpeindhocndmnaa
open Go Go.Bx
set_option linter.unusedSimpArgs false
set_option linter.unusedVariables false
set_option maxRecDepth 100000
set_option maxHeartbeats 4000000
attribute [local irreducible] X XO XE XF XD XW thenX inX retX kN CallsR
structure KnF (s : Md) (es : List (Ent Fun8)) : Prop where
  den : ∀ e ∈ es, ∃ n : Int, e.2.1 = .int .i64 n ∧ Den s n e.1
  con : ∀ b, mget es (constF b) ≠ none
structure BtI (own : Nat → Nat) (w : World) (p : Nat) (s : Md) (bb bm : Nat) (es : List (Ent Fun8)) (ck : Nat) : Prop where
  sti : StI own w p s []
  hb : w.heap[bb]? = some (.cells #[.pointer (some ⟨p, 0, none⟩), .map (some bm)] 139)
  hm : w.heap[bm]? = some (mObj fv es ck)
  inv : MInv es ck
  kn : KnF s es
  ob : own bb = 0
  om : own bm = 0
section
variable {own own' : Nat → Nat} {w w' w1 w2 : World} {p bb bm ck : Nat} {s s' s2 : Md} {es : List (Ent Fun8)} {f : Fun8} {n : Int}
def BtT (own : Nat → Nat) (w : World) (p : Nat) (s' : Md) (bb bm : Nat) (w' : World) : Prop := ∃ own' es' ck', BtI own' w' p s' bb bm es' ck' ∧ (∀ k, k < w.heap.size → own' k = own k) ∧ Chg (fun k => own k ≠ 0 ∨ k = bm) w w'
structure BtS (own : Nat → Nat) (w : World) (bm : Nat) (own' : Nat → Nat) (w' : World) : Prop where
  ho : ∀ k, k < w.heap.size → own' k = own k
  ch : Chg (fun k => own k ≠ 0 ∨ k = bm) w w'
end
end Go.Proofs.Ytpeindhocndmnaa

namespace Go.Bx
open Go
set_option linter.unusedSimpArgs false
set_option linter.unusedVariables false
def AnyO (P : Program) (ops : Array Oper) (I : (Nat → Bool) → Env → World → Prop) : Prop :=
  ∀ (S : Nat → Bool) (j : Nat) (o : Oper), ops[j]? = some o → S j = false → (∀ ed ∈ o.after, Region.binds .any ed = true → S ed.on = true) → ∀ e w, I S e w →
    wantG e (gslot ops o.guard) ∧ XV P o.op o.type e w (fun v w' => I (fun i => S i || i == j) (e.put o.dst v) w')
def backOK (ops : Array Oper) : Bool := (List.range ops.size).all fun j => match ops[j]? with | some o => o.after.all fun ed => !Region.binds .any ed || decide (ed.on < j) | none => true
end Go.Bx

namespace Go.Proofs.Ytpeindhocndmnaa
open Go Go.Bx
set_option linter.unusedSimpArgs false
set_option linter.unusedVariables false
set_option maxRecDepth 100000
set_option maxHeartbeats 4000000
attribute [local irreducible] X XO XE XF XD XW thenX inX retX kN CallsR
def Nb1 (C0 C1 : Fun8) (p m : Nat) (u : World) (q3 q5 q6 q7 q8 q9 : Bool) (x8 x11 x12 x13 x6 : Value) : Prop :=
  ∃ (b ck : Nat) (es : List (Ent Fun8)), x8 = .map (some b) ∧ m ≤ b ∧ u.heap[b]? = some (mObj fv es ck) ∧ MInv es ck ∧ (∀ x ∈ es, (x.1 = C0 ∧ x.2.1 = .int .i64 0) ∨ (x.1 = C1 ∧ x.2.1 = .int .i64 1)) ∧ (q3 = true → mget es C0 ≠ none) ∧ (q5 = true → mget es C1 ≠ none) ∧
    (q6 = true → x11 = .map (some b)) ∧ (q7 = true → x12 = .agg #[.pointer (some ⟨p, 0, none⟩), .map (some b)]) ∧ (q8 = true → ∃ bb, x13 = .pointer (some ⟨bb, 0, none⟩) ∧ m ≤ bb ∧ u.heap[bb]? = some (.cells #[.pointer (some ⟨p, 0, none⟩), .map (some b)] 139) ∧ (q9 = true → x6 = .pointer (some ⟨bb, 0, none⟩)))
section
variable {C0 C1 : Fun8} {p b3 m : Nat} {w u u' : World} {q3 q5 q6 q7 q8 q9 : Bool} {x8 x11 x12 x13 x6 : Value} {S : Nat → Bool} {e : Env}
structure NbI (C0 C1 : Fun8) (p b3 : Nat) (w : World) (S : Nat → Bool) (e : Env) (u : World) : Prop where
  ext : Ext w u
  e0 : e 0 = .pointer (some ⟨p, 0, none⟩)
  e3 : e 3 = .pointer (some ⟨b3, 0, none⟩)
  s0 : S 0 = true → e 7 = .pointer (some ⟨p, 0, none⟩)
  s1 : S 1 = true → Nb1 C0 C1 p w.heap.size u (S 3) (S 5) (S 6) (S 7) (S 8) (S 9) (e 8) (e 11) (e 12) (e 13) (e 6)
  s2 : S 2 = true → e 9 = fv C0
  s4 : S 4 = true → e 10 = fv C1
  cl : S 1 = false → S 3 = false ∧ S 5 = false ∧ S 6 = false ∧ S 7 = false ∧ S 8 = false ∧ S 9 = false
  c9 : S 8 = false → S 9 = false
end
end Go.Proofs.Ytpeindhocndmnaa

namespace Go.Bx
open Go
set_option linter.unusedSimpArgs false
set_option linter.unusedVariables false
end Go.Bx

namespace Go.Bx
open Go
set_option linter.unusedSimpArgs false
set_option linter.unusedVariables false
end Go.Bx

namespace Go.Proofs.Ytpeindhocndmnaa
open Go Go.Bx
set_option linter.unusedSimpArgs false
set_option linter.unusedVariables false
set_option maxRecDepth 100000
set_option maxHeartbeats 4000000
attribute [local irreducible] X XO XE XF XD XW thenX inX retX kN CallsR
def KnT (s : Md) (es : List (Ent Int)) : Prop := ∀ e ∈ es, ∃ f, e.2.1 = fv f ∧ Den s e.1 f
section
variable {own : Nat → Nat} {w : World} {p b ck : Nat} {es : List (Ent Int)} {v : Value} {n : Int} {s : Md} {f : Fun8}
theorem intK {kt : TypeId} (hd : Try.prog.underlying kt = some (.int .i64)) : KeyOK Try.prog kt (Value.int .i64) fun _ : Int => True := int_keys hd
def TbT (w : World) (s : Md) (bm : Nat) (w' : World) : Prop := ∃ es' ck', w'.heap[bm]? = some (mObj (Value.int .i64) es' ck') ∧ MInv es' ck' ∧ KnT s es' ∧ Chg (fun k => k = bm) w w'
end
end Go.Proofs.Ytpeindhocndmnaa

namespace Go.Bx
open Go
set_option linter.unusedSimpArgs false
set_option linter.unusedVariables false
end Go.Bx

namespace Go.Bx
open Go
set_option linter.unusedSimpArgs false
set_option linter.unusedVariables false
structure AllOnce (ord : List Int) : Prop where
  len : ord.length = 8
  all : ∀ v : Nat, v < 8 → ∃ j, j < 8 ∧ ord[j]? = some (v : Int)
  rng : ∀ j : Nat, j < 8 → ∃ v : Nat, v < 8 ∧ ord[j]? = some (v : Int)
  once : ∀ (i j : Nat) (v : Int), ord[i]? = some v → ord[j]? = some v → i = j
section
variable {ord : List Int} {f g : Fun8} {v : Int} {b : Bool} {i j : Nat}
def ov (ord : List Int) (j : Nat) : Int := ord.getD j 0
def lev (ord : List Int) (f : Fun8) : Nat → List Fun8
  | 0 => [f]
  | j + 1 => (lev ord f j).flatMap fun g => [cofF g (ov ord j) false, cofF g (ov ord j) true]
theorem find_first {p : Int → Bool} : ∀ {l : List Int} {x : Int}, l.find? p = some x → ∃ i : Nat, l[i]? = some x ∧ ∀ (k : Nat) (y : Int), k < i → l[k]? = some y → p y = false
  | [], _, h => by cases h
  | a :: l, x, h => by
    cases ha : p a
    · rw [List.find?_cons_of_neg (by simp [ha])] at h
      obtain ⟨i, h1, h2⟩ := find_first h
      refine ⟨i + 1, by simpa using h1, fun k y hk hy => ?_⟩
      cases k with
      | zero => simp at hy; subst hy; exact ha
      | succ k => exact h2 k y (by omega) (by simpa using hy)
    · rw [List.find?_cons_of_pos ha] at h
      cases h
      exact ⟨0, rfl, fun k y hk => by omega⟩
def rep (p q : Nat) (a b : Bool) : Nat := (if a then 2 ^ p else 0) + (if b then 2 ^ q else 0)
def tblF (p q : Nat) (n : Nat) : Fun8 := ofRows fun x => n.testBit ((x.testBit p).toNat + 2 * (x.testBit q).toNat)
def mayF (ord : List Int) : Bool := (List.range 8).all fun v => ord.count (v : Int) == 1
end
end Go.Bx

namespace Go.Bx
open Go
set_option linter.unusedSimpArgs false
set_option linter.unusedVariables false
section
variable {s s' : Md} {n m v lo hi : Int} {f g h : Fun8} {L K : List Fun8}
open Classical in
noncomputable def Md.tab (s : Md) (n : Int) : Fun8 := if h : ∃ f, Den s n f then Classical.choose h else constF false
def Md.Full (s : Md) (L : List Fun8) : Prop := ∀ n f, s.has n = true → Den s n f → Rch s.ord L f
end
end Go.Bx

namespace Go.Bx
open Go
set_option linter.unusedSimpArgs false
set_option linter.unusedVariables false
def Md.there (s : Md) (n : Int) : Bool := decide (n = 0) || (decide (n = 1) || s.has n)
noncomputable def Md.ite (s : Md) (a b c : Int) : (Int × Int) × Md := if s.there a && (s.there b && s.there c) then s.bld (iteF (s.tab a) (s.tab b) (s.tab c)) else ((0, 1), s)
noncomputable def Md.xor (s : Md) (a b : Int) : (Int × Int) × Md := if s.there a && s.there b then (if (s.ite b 0 1).1.2 = 0 then (s.ite b 0 1).2.ite a (s.ite b 0 1).1.1 b else s.ite b 0 1) else ((0, 1), s)
section
variable {s s' : Md} {n m a b c : Int} {f g h : Fun8} {L : List Fun8}
structure Itt (s : Md) (r : (Int × Int) × Md) : Prop where
  good : r.2.Good []
  le : s.Le r.2
  err : r.1.2 = 0 ∨ r.1.2 = 1 ∨ r.1.2 = 2
  zero : r.1.2 ≠ 0 → r.1.1 = 0
  there : r.1.2 = 0 → r.2.there r.1.1 = true
end
end Go.Bx

namespace Go.Bx
open Go
set_option linter.unusedSimpArgs false
set_option linter.unusedVariables false
section
variable {s s' : Md} {n m a b c v : Int} {f g h : Fun8} {L K : List Fun8} {ord : List Int}
structure Ro (s : Md) (L : List Fun8) (M : Int) : Prop where
  good : s.Good []
  full : s.Full L
  most : s.a.most = M
end
end Go.Bx

namespace Go.Proofs.Ytpeindhocndmnaa
open Go Go.Bx
set_option linter.unusedSimpArgs false
set_option linter.unusedVariables false
set_option maxRecDepth 100000
set_option maxHeartbeats 4000000
attribute [local irreducible] X XO XE XF XD XW thenX inX retX kN CallsR
section
variable {W w w' : World} {ps : Nat} {s s' : Md} {f : Fun8} {L : List Fun8} {M n : Int}
theorem oneNew (h0' : 0 ≤ M) (h1' : M ≤ 20000) (hE : Ext W w) : CallsR Try.prog 19 #[.int .i64 M] w fun r w' => ∃ p, r = .pointer (some ⟨p, 0, none⟩) ∧ OneI W w' p (Md.new M) := by
  refine (OneI.new h0' h1' w).mono ?_
  rintro r w' ⟨p, hr, o, h1, h2, h3⟩
  exact ⟨p, hr, o, h1, fun k hk => by have := h2 k hk; have := hE.size; omega, hE.trans h3⟩
structure OnR (W w : World) (ps : Nat) (s : Md) (own : Nat → Nat) : Prop where
  sti : StI own w ps s []
  low : ∀ k, own k ≠ 0 → W.heap.size ≤ k
  ext : Ext W w
theorem OneI.to (h : OneI W w ps s) : ∃ own, OnR W w ps s own := by obtain ⟨o, h1, h2, h3⟩ := h; exact ⟨o, h1, h2, h3⟩
theorem OnR.up {own : Nat → Nat} (h : OnR W w ps s own) (hE : Ext w w') : OnR W w' ps s own := ⟨h.sti.ext hE, h.low, h.ext.trans hE⟩
theorem OnR.call {own : Nat → Nat} {fn : FuncId} {args : Array Value} {R : Value → Prop} (h : OnR W w ps s own) (hc : CallsR Try.prog fn args w fun r w' => R r ∧ TrI own w ps s' [] w') :
    CallsR Try.prog fn args w fun r w' => R r ∧ ∃ own', OnR W w' ps s' own' ∧ Sw own w own' w' := by
  refine hc.mono ?_
  rintro r w' ⟨hr, a', g1, ho, hC⟩
  have hsW := h.ext.size
  refine ⟨hr, a', ⟨g1, fun k hk => ?_, hC.toExt h.ext fun k hk hf => by have := h.low k hf; omega⟩, ⟨ho, hC⟩⟩
  by_cases hl : k < w.heap.size
  · exact h.low k (by rw [← ho k hl]; exact hk)
  · omega
end
end Go.Proofs.Ytpeindhocndmnaa

namespace Go.Proofs.Ytpeindhocndmnaa
open Go Go.Bx
set_option linter.unusedSimpArgs false
set_option linter.unusedVariables false
set_option maxRecDepth 100000
set_option maxHeartbeats 4000000
attribute [local irreducible] X XO XE XF XD XW thenX inX retX kN CallsR
section
variable {w : World} {b ck : Nat} {es : List (Ent Int)} {v : Value} {n : Int}
theorem luI1 (h : w.heap[b]? = some (mObj (Value.int .i64) es ck)) : luO Try.prog 150 b (.int .i64 n) false w (some (mObj (Value.int .i64) es ck)) h = .ok ((mget es n).getD (.int .i64 0)) w := lookup_at h T150 T3 (intK T3.und) trivial (fun _ _ => trivial) false
theorem muI (h : w.heap[b]? = some (mObj (Value.int .i64) es ck)) : muO Try.prog 150 b (.int .i64 n) v w (some (mObj (Value.int .i64) es ck)) h = .ok () (upd w b (mObj (Value.int .i64) (mput es n v ck) (mclock es n ck))) := update_at h T150 (intK T3.und) trivial (fun _ _ => trivial) v
attribute [push_cast] luI1 muI
theorem nod_has {s : Md} (hh : s.has n = true) : s.node n = (s.nd n, true) := by unfold Md.node; rw [hh]; rfl
theorem nod_no {s : Md} (hh : s.has n = false) : s.node n = ((0, 0, 0), false) := by unfold Md.node; rw [hh]; rfl
end
end Go.Proofs.Ytpeindhocndmnaa

namespace Go.Bx
open Go
set_option linter.unusedSimpArgs false
set_option linter.unusedVariables false
end Go.Bx

namespace Go.Proofs.Ytpeindhocndmnaa
open Go Go.Bx
set_option linter.unusedSimpArgs false
set_option linter.unusedVariables false
set_option maxRecDepth 100000
set_option maxHeartbeats 4000000
attribute [local irreducible] X XO XE XF XD XW thenX inX retX kN CallsR
def lays125_ren : Go.Shelf.Ren := ⟨fun | 125 => 153 | 128 => 172 | 129 => 173 | n => n, fun | 46 => 126 | 3 => 3 | 51 => 204 | 53 => 52 | 4 => 4 | 5 => 5 | 9 => 9 | n => n, fun | n => n⟩
theorem lays125 : Go.Proofs.Lays.n125 Try.prog lays125_ren := {
  mixed := by kernel_rfl
  f125 := Try.func153.trans (congrArg some (by kernel_rfl))
  f128 := Try.func172.trans (congrArg some (by kernel_rfl))
  f129 := Try.func173.trans (congrArg some (by kernel_rfl))
  t3 := Try.underlying3
  a3 := Try.isAgg3
  z3 := Try.sizeOf3
  v3 := Try.zeroValue3
  t4 := Try.underlying4
  a4 := Try.isAgg4
  z4 := Try.sizeOf4
  v4 := Try.zeroValue4
  t5 := Try.underlying5
  a5 := Try.isAgg5
  z5 := Try.sizeOf5
  v5 := Try.zeroValue5
  t9 := Try.underlying9
  a9 := Try.isAgg9
  z9 := Try.sizeOf9
  v9 := Try.zeroValue9
  t46 := Try.underlying126
  a46 := Try.isAgg126
  z46 := Try.sizeOf126
  v46 := Try.zeroValue126
  t51 := Try.underlying204
  a51 := Try.isAgg204
  z51 := Try.sizeOf204
  v51 := Try.zeroValue204
  t53 := Try.underlying52
  a53 := Try.isAgg52
  z53 := Try.sizeOf52
  v53 := Try.zeroValue52 }
theorem bitsLen_sure (x : Int) (h0 : 0 ≤ x) (h1 : x ≤ 18446744073709551615) : Sure Try.prog 153 #[.int .u64 x] (.int .i64 (Lib.bitLen x.toNat)) := fun w => by
  have h : Calls Try.prog 153 #[.int .u64 x] w (fun e w' => e = .returned (.int .i64 (Lib.bitLen x.toNat)) ∧ w' = w) := Any.bits_Len lays125 x w h0 h1
  unfold CallsR
  exact h.mono fun en w' ⟨h, hw⟩ => ⟨_, h, rfl, hw ▸ Ext.refl w⟩
def lays189_ren : Go.Shelf.Ren := ⟨fun | 125 => 153 | 128 => 172 | 129 => 173 | 189 => 127 | 215 => 180 | 216 => 169 | 257 => 152 | 294 => 163 | 295 => 164 | 296 => 165 | 297 => 166 | 298 => 167 | 299 => 168 | 300 => 170 | 301 => 171 | 328 => 175 | 329 => 176 | 330 => 177 | 331 => 178 | 332 => 179 | 343 => 181 | n => n, fun | 0 => 0 | 3 => 3 | 4 => 4 | 5 => 5 | 9 => 9 | 28 => 34 | 46 => 126 | 51 => 204 | 53 => 52 | 131 => 165 | 182 => 197 | 183 => 198 | 218 => 206 | 222 => 210 | 228 => 212 | 229 => 81 | n => n, fun | n => n⟩
theorem lays189 : Go.Proofs.Lays.n189 Try.prog lays189_ren := {
  mixed := by kernel_rfl
  f125 := Try.func153.trans (congrArg some (by kernel_rfl))
  f128 := Try.func172.trans (congrArg some (by kernel_rfl))
  f129 := Try.func173.trans (congrArg some (by kernel_rfl))
  f189 := Try.func127.trans (congrArg some (by kernel_rfl))
  f215 := Try.func180.trans (congrArg some (by kernel_rfl))
  f216 := Try.func169.trans (congrArg some (by kernel_rfl))
  f257 := Try.func152.trans (congrArg some (by kernel_rfl))
  f294 := Try.func163.trans (congrArg some (by kernel_rfl))
  f295 := Try.func164.trans (congrArg some (by kernel_rfl))
  f296 := Try.func165.trans (congrArg some (by kernel_rfl))
  f297 := Try.func166.trans (congrArg some (by kernel_rfl))
  f298 := Try.func167.trans (congrArg some (by kernel_rfl))
  f299 := Try.func168.trans (congrArg some (by kernel_rfl))
  f300 := Try.func170.trans (congrArg some (by kernel_rfl))
  f301 := Try.func171.trans (congrArg some (by kernel_rfl))
  f328 := Try.func175.trans (congrArg some (by kernel_rfl))
  f329 := Try.func176.trans (congrArg some (by kernel_rfl))
  f330 := Try.func177.trans (congrArg some (by kernel_rfl))
  f331 := Try.func178.trans (congrArg some (by kernel_rfl))
  f332 := Try.func179.trans (congrArg some (by kernel_rfl))
  f343 := Try.func181.trans (congrArg some (by kernel_rfl))
  t0 := Try.underlying0
  a0 := Try.isAgg0
  z0 := Try.sizeOf0
  v0 := Try.zeroValue0
  t3 := Try.underlying3
  a3 := Try.isAgg3
  z3 := Try.sizeOf3
  v3 := Try.zeroValue3
  t4 := Try.underlying4
  a4 := Try.isAgg4
  z4 := Try.sizeOf4
  v4 := Try.zeroValue4
  t5 := Try.underlying5
  a5 := Try.isAgg5
  z5 := Try.sizeOf5
  v5 := Try.zeroValue5
  t9 := Try.underlying9
  a9 := Try.isAgg9
  z9 := Try.sizeOf9
  v9 := Try.zeroValue9
  t28 := Try.underlying34
  a28 := Try.isAgg34
  z28 := Try.sizeOf34
  v28 := Try.zeroValue34
  t46 := Try.underlying126
  a46 := Try.isAgg126
  z46 := Try.sizeOf126
  v46 := Try.zeroValue126
  t51 := Try.underlying204
  a51 := Try.isAgg204
  z51 := Try.sizeOf204
  v51 := Try.zeroValue204
  t53 := Try.underlying52
  a53 := Try.isAgg52
  z53 := Try.sizeOf52
  v53 := Try.zeroValue52
  t131 := Try.underlying165
  a131 := Try.isAgg165
  z131 := Try.sizeOf165
  v131 := Try.zeroValue165
  t182 := Try.underlying197
  a182 := Try.isAgg197
  z182 := Try.sizeOf197
  v182 := Try.zeroValue197
  t183 := Try.underlying198
  a183 := Try.isAgg198
  z183 := Try.sizeOf198
  v183 := Try.zeroValue198
  t218 := Try.underlying206
  a218 := Try.isAgg206
  z218 := Try.sizeOf206
  v218 := Try.zeroValue206
  t222 := Try.underlying210
  a222 := Try.isAgg210
  z222 := Try.sizeOf210
  v222 := Try.zeroValue210
  t228 := Try.underlying212
  a228 := Try.isAgg212
  z228 := Try.sizeOf212
  v228 := Try.zeroValue212
  t229 := Try.underlying81
  a229 := Try.isAgg81
  z229 := Try.sizeOf81
  v229 := Try.zeroValue81 }
structure Pm (w0 : World) (g cap : Nat) (l0 : List Int) (w : World) (l : List Int) : Prop where
  perm : l.Perm l0
  up : l.Pairwise (· ≤ ·)
  sl : SlC w 3 (some ⟨g, 0, none⟩) cap (ints l)
  ch : Chg (fun k => k = g) w0 w
theorem at_c {P : Program} {f : FuncId} {args : Array Value} {w : World} {K : Value → World → Prop} (h : ∀ u, u = w → CallsR P f args u K) : CallsR P f args w K := h w rfl
section
variable {w w0 w1 w' : World} {g cap : Nat} {l0 l l1 : List Int} {cur : Array Value} {i j : Int}
theorem Pm.len (h : Pm w0 g cap l0 w l) : l.length = l0.length := h.perm.length_eq
theorem sort_calls (h : SlC w 3 (some ⟨g, 0, none⟩) cap (ints l)) (hl : l.length ≤ 1000000000) :
    CallsR Try.prog 127 #[.slice (some ⟨g, 0, none⟩) l.length cap] w fun r w' => r = .tuple #[] ∧ ∃ k, Pm w g cap l w' k := by
  rcases h.l.row with ⟨e, _⟩ | ⟨g', cur, e, hg, h1, h2, h3, h4⟩
  · cases e
  · cases e
    have hlen : (one1 (ints l)).length = l.length := by simp
    rw [hlen] at h1 h4
    rw [one1_flat, Nat.mul_one] at h4
    have hlt := lt_of_heap hg
    have hH := holds_of_blockI hg (ss := l) h4
    have hc := Go.Proofs.Any.slices_Sort_int lays189 g 0 cap l w hH hlt (by omega)
    unfold CallsR
    refine Calls.mono (R := _) hc ?_
    rintro en w' ⟨rfl, n, os, rfl⟩
    have hperm := List.mergeSort_perm l fun x y => decide (x ≤ y)
    have hup : (l.mergeSort fun x y => decide (x ≤ y)).Pairwise (· ≤ ·) := by
      have := List.pairwise_mergeSort (le := fun x y : Int => decide (x ≤ y)) (fun a b c h1 h2 => by simp at *; omega) (fun a b => by simp; omega) l
      exact this.imp fun h => by simpa using h
    have hml := hperm.length_eq
    generalize (l.mergeSort fun x y => decide (x ≤ y)) = k at *
    have hgb := grownBy_sortedI (w := w) (g := g) (n := n) (os := os) k.toArray
    have hb2 := heap_sortedI (n := n) (os := os) k.toArray hg
    have htk := take_putCellsI cur k (by rw [hml]; omega)
    refine ⟨_, rfl, rfl, k, hperm, hup, ?_, ?_⟩
    · have e1 : (one1 (ints k)).length = k.length := by simp
      exact ⟨⟨by rw [one1_flat, e1]; simp, .inr ⟨g, _, rfl, hb2, by rw [e1]; omega, h2, by simp [Sort.putCells, h3], by rw [e1, one1_flat, Nat.mul_one]; exact htk⟩⟩, one1_len⟩
    · obtain ⟨a, b, c, d, e⟩ := hgb
      exact ⟨a, b, c, d, fun j hj hf => e j hj (by intro h; apply hf; first | exact Option.some.inj h | exact (Option.some.inj h).symm)⟩
theorem insertion_nil : Sure Try.prog 163 #[.slice none 0 0, .int .i64 0, .int .i64 0] (.tuple #[]) := by
  intro w
  refine en3 Try.func163 Try.results163 mixed [(6, [15, 17])] ?_
  intro e0 h0 h1 h2
  refine w_ fun d => ?_
  refine un_ 1 ?_
  refine w_ fun d => ?_
  exact ⟨rfl, ext_⟩
theorem pdq_nil (lim : Int) : Sure Try.prog 152 #[.slice none 0 0, .int .i64 0, .int .i64 0, .int .i64 lim] (.tuple #[]) := by
  intro w
  have go := insertion_nil
  refine en4 Try.func152 Try.results152 mixed [] ?_
  intro e0 h0 h1 h2 h3
  refine w_ fun d => ?_
  refine un_ 1 ?_
  refine w_ fun d => ?_
  refine qq (go.quiet (w := w)) fun w1 hE1 hs1 => ?_
  refine w_ fun d => ?_
  exact ⟨rfl, ext_⟩
theorem sort_nil : Sure Try.prog 127 #[.slice none 0 0] (.tuple #[]) := by
  intro w
  have bl := bitsLen_sure 0 (by omega) (by omega)
  have go := fun n => pdq_nil n
  refine en1 Try.func127 Try.results127 mixed [] ?_
  intro e0 h0
  refine w_ fun d => ?_
  refine qq (bl.quiet (w := w)) fun w1 hE1 hs1 => ?_
  refine w_ fun d => ?_
  refine qq ((go _).quiet (w := w1)) fun w2 hE2 hs2 => ?_
  refine w_ fun d => ?_
  exact ⟨rfl, ext_⟩
theorem slc_app {w : World} {a b0 : Option Addr} {cap c : Nat} {l m : List Int} (h : SlC w 3 a cap (ints l)) (hI : InI w b0 m) (hm : l.length + m.length ≤ 1099511627776) :
    ∃ a' cap' w', apR Try.prog 34 (.slice a l.length cap) (.slice b0 m.length c) w = .ok (.slice a' (l ++ m).length cap') w' ∧ SlC w' 3 a' cap' (ints (l ++ m)) ∧ Chg (fun k => blk a = some k) w w' ∧ (∀ g, blk a' = some g → blk a = some g ∨ (w.heap.size ≤ g ∧ g < w'.heap.size)) := by
  obtain ⟨a2, c2, w2, hr, hS2, hC2, hB2⟩ := Sl.append (news := one1 (ints m)) (c := c) h T34 T3 rfl (by decide) hI one1_len (by rw [one1_flat]; exact List.all_eq_true.2 fun x hx => by obtain ⟨y, _, rfl⟩ := List.mem_map.1 hx; rfl) (by simp; omega) (by decide)
  rw [← List.map_append, ← List.map_append] at hr
  simp only [List.length_map] at hr
  exact ⟨a2, c2, w2, hr, by unfold SlC; rw [ints, List.map_append, one1, List.map_append]; exact hS2, hC2, hB2⟩
theorem clone_calls {a : Option Addr} {c : Nat} (hI : InI w a l) (hl : l.length ≤ 1000000000) :
    CallsR Try.prog 126 #[.slice a l.length c] w fun r w' => ∃ a' c', r = .slice a' l.length c' ∧ SlC w' 3 a' c' (ints l) ∧ (∀ g, blk a' = some g → w.heap.size ≤ g) ∧ Ext w w' := by
  cases a with
  | none =>
    rcases hI with h | ⟨g, o, cs, E, fz, h, _⟩
    · have : l = [] := by simpa using h
      subst this
      refine en1 Try.func126 Try.results126 mixed [] ?_
      intro e0 h0
      refine w_ fun d => ?_
      exact ⟨none, 0, rfl, SlC.nil _ _, (fun g h => by cases h), ext_⟩
    · cases h
  | some ad =>
    have hE0 : Ext w (w.alloc (.cells #[] 3)) := ext_
    have h0' : SlC (w.alloc (.cells #[] 3)) 3 (some ⟨w.heap.size, 0, none⟩) 0 (ints []) := SlC.made (l := []) (hA rfl) (by simp)
    obtain ⟨a2, c2, w2, hr, hS, hC, hB⟩ := slc_app (c := c) h0' (Inp.ext hI hE0) (by simp; omega)
    simp only [List.nil_append, List.length_nil] at hr hS
    have hE2 : Ext w w2 := hC.toExt hE0 fun k hk hb => by have := blk_g hb; omega
    have hs2 := hC.size
    have hB2 : ∀ g, blk a2 = some g → w.heap.size ≤ g := fun g hg => by
      rcases hB g hg with h | h
      · have := blk_g h; omega
      · have := h.1; simp only [alloc_size] at this; omega
    clear hI h0' hC hB hE0
    refine en1 Try.func126 Try.results126 mixed [] ?_
    intro e0 h0
    refine w_ fun d => ?_
    exact ⟨a2, c2, rfl, hS.ext ext_, hB2, ext_⟩
end
end Go.Proofs.Ytpeindhocndmnaa

namespace Go.Bx
open Go
set_option linter.unusedSimpArgs false
set_option linter.unusedVariables false
inductive Md.Rc (s : Md) (rs : List Int) : Int → Prop
  | root {n : Int} (h : n ∈ rs) (hn : s.has n = true) : Md.Rc s rs n
  | lo {n : Int} (h : Md.Rc s rs n) (hn : s.has (s.nd n).2.1 = true) : Md.Rc s rs (s.nd n).2.1
  | hi {n : Int} (h : Md.Rc s rs n) (hn : s.has (s.nd n).2.2 = true) : Md.Rc s rs (s.nd n).2.2
open Classical in
noncomputable def Md.keep (s : Md) (rs : List Int) (n : Int) : Bool := decide (s.Rc rs n)
noncomputable def Md.reach (s : Md) (rs : List Int) : List Int := s.all.filter (s.keep rs)
section
variable {s s' : Md} {n m c v : Int} {f g : Fun8} {rs l K w w' : List Int}
theorem Md.Rc.has (h : s.Rc rs n) : s.has n = true := by cases h <;> assumption
theorem Md.keep_iff : s.keep rs n = true ↔ s.Rc rs n := by unfold Md.keep; simp only [decide_eq_true_eq]
theorem Md.WF.mem_reach (W : s.WF) : n ∈ s.reach rs ↔ s.Rc rs n := by
  unfold Md.reach
  rw [List.mem_filter, W.mem_all, Md.keep_iff]
  exact ⟨fun h => h.2, fun h => ⟨h.has, h⟩⟩
theorem Md.all_up : s.all.Pairwise (· < ·) := by
  show (((List.range s.N.length).map fun j : Nat => (j : Int) + 2).filter fun n => s.has n).Pairwise (· < ·)
  refine List.Pairwise.filter _ ?_
  rw [List.pairwise_map]
  exact List.Pairwise.imp (fun h => by omega) List.pairwise_lt_range
theorem Md.reach_up : (s.reach rs).Pairwise (· < ·) := List.Pairwise.filter _ Md.all_up
theorem up_eq : ∀ {l k : List Int}, l.Pairwise (· < ·) → k.Pairwise (· < ·) → (∀ x, x ∈ l ↔ x ∈ k) → l = k
  | [], [], _, _, _ => rfl
  | [], b :: k, _, _, h => by have := (h b).2 (by simp); cases this
  | a :: l, [], _, _, h => by have := (h a).1 (by simp); cases this
  | a :: l, b :: k, hl, hk, h => by
    have hl' := List.pairwise_cons.1 hl
    have hk' := List.pairwise_cons.1 hk
    have hab : a = b := by
      rcases List.mem_cons.1 ((h a).1 (by simp)) with e | e
      · exact e
      · rcases List.mem_cons.1 ((h b).2 (by simp)) with e2 | e2
        · exact e2.symm
        · have := hl'.1 b e2; have := hk'.1 a e; omega
    subst hab
    rw [up_eq hl'.2 hk'.2 fun x => ?_]
    constructor
    · intro hx
      rcases List.mem_cons.1 ((h x).1 (by simp [hx])) with e | e
      · have := hl'.1 x hx; omega
      · exact e
    · intro hx
      rcases List.mem_cons.1 ((h x).2 (by simp [hx])) with e | e
      · have := hk'.1 x hx; omega
      · exact e
structure Rdf (s : Md) (rs K w : List Int) : Prop where
  nodup : K.Nodup
  rch : ∀ n ∈ K, s.Rc rs n
  wrk : ∀ n ∈ w, s.has n = true → s.Rc rs n
  root : ∀ n ∈ rs, s.has n = true → n ∈ K ∨ n ∈ w
  lo : ∀ n ∈ K, s.has (s.nd n).2.1 = true → (s.nd n).2.1 ∈ K ∨ (s.nd n).2.1 ∈ w
  hi : ∀ n ∈ K, s.has (s.nd n).2.2 = true → (s.nd n).2.2 ∈ K ∨ (s.nd n).2.2 ∈ w
theorem Rdf.init : Rdf s rs [] rs := ⟨List.nodup_nil, fun _ h => (by cases h), fun n hn hh => .root hn hh, fun n hn _ => .inr hn, fun _ h => (by cases h), fun _ h => (by cases h)⟩
theorem Rdf.skip (h : Rdf s rs K w) (hn : s.has n = false ∨ n ∈ K) (h1 : ∀ x ∈ w, x = n ∨ x ∈ w') (h2 : ∀ x ∈ w', x ∈ w) : Rdf s rs K w' := by
  have key : ∀ x, s.has x = true → x ∈ K ∨ x ∈ w → x ∈ K ∨ x ∈ w' := fun x hx hxw => by
    rcases hxw with e | e
    · exact .inl e
    · rcases h1 x e with rfl | e
      · rcases hn with e2 | e2
        · rw [e2] at hx; cases hx
        · exact .inl e2
      · exact .inr e
  exact ⟨h.nodup, h.rch, fun x hx => h.wrk x (h2 x hx), fun x hx hh => key x hh (h.root x hx hh), fun x hx hh => key _ hh (h.lo x hx hh), fun x hx hh => key _ hh (h.hi x hx hh)⟩
theorem Rdf.go (h : Rdf s rs K w) (hn : s.has n = true) (hK : n ∉ K) (hw : n ∈ w) (h1 : ∀ x ∈ w, x = n ∨ x ∈ w') (h2 : ∀ x ∈ w', x ∈ w ∨ x = (s.nd n).2.1 ∨ x = (s.nd n).2.2) (h3 : (s.nd n).2.1 ∈ w') (h4 : (s.nd n).2.2 ∈ w') : Rdf s rs (K ++ [n]) w' := by
  have hr := h.wrk n hw hn
  have key : ∀ x, s.has x = true → x ∈ K ∨ x ∈ w → x ∈ K ++ [n] ∨ x ∈ w' := fun x hx hxw => by
    rcases hxw with e | e
    · exact .inl (by simp [e])
    · rcases h1 x e with rfl | e
      · exact .inl (by simp)
      · exact .inr e
  refine ⟨?_, fun x hx => ?_, fun x hx hh => ?_, fun x hx hh => key x hh (h.root x hx hh), fun x hx hh => ?_, fun x hx hh => ?_⟩
  · rw [List.nodup_append]
    exact ⟨h.nodup, by simp, fun x hx y hy e => by rw [List.mem_singleton] at hy; subst e hy; exact hK hx⟩
  · rcases List.mem_append.1 hx with e | e
    · exact h.rch x e
    · rw [List.mem_singleton.1 e]; exact hr
  · rcases h2 x hx with e | rfl | rfl
    · exact h.wrk x e hh
    · exact .lo hr hh
    · exact .hi hr hh
  · rcases List.mem_append.1 hx with e | e
    · exact key _ hh (h.lo x e hh)
    · rw [List.mem_singleton.1 e]; exact .inr h3
  · rcases List.mem_append.1 hx with e | e
    · exact key _ hh (h.hi x e hh)
    · rw [List.mem_singleton.1 e]; exact .inr h4
theorem Rdf.done (h : Rdf s rs K []) : n ∈ K ↔ s.Rc rs n := by
  refine ⟨h.rch n, fun hr => ?_⟩
  induction hr with
  | root hm hh => exact (h.root _ hm hh).resolve_right (by simp)
  | lo _ hh ih => exact (h.lo _ ih hh).resolve_right (by simp)
  | hi _ hh ih => exact (h.hi _ ih hh).resolve_right (by simp)
theorem Rdf.len (h : Rdf s rs K w) (W : s.WF) : K.length ≤ s.all.length := sub_len' h.nodup fun x hx => W.mem_all.2 (h.rch x hx).has
theorem Rdf.len' (h : Rdf s rs K w) (W : s.WF) (hn : s.has n = true) (hK : n ∉ K) : K.length < s.all.length := by
  have := sub_len' (l := n :: K) (List.nodup_cons.2 ⟨hK, h.nodup⟩) (m := s.all) fun x hx => by
    rcases List.mem_cons.1 hx with rfl | hx
    · exact W.mem_all.2 hn
    · exact W.mem_all.2 (h.rch x hx).has
  rw [List.length_cons] at this; omega
theorem Rdf.reach (h : Rdf s rs K []) (W : s.WF) (hu : l.Pairwise (· < ·)) (hl : ∀ x, x ∈ l ↔ x ∈ K) : l = s.reach rs :=
  up_eq hu Md.reach_up fun x => by rw [hl, h.done, W.mem_reach]
def Md.drop1 (kp : Int → Bool) (v : Int) (s : Md) (n : Int) : Md := if s.of n v && !kp n then s.drop n else s
def Md.dropV (kp : Int → Bool) (v : Int) (l : List Int) (s : Md) : Md := l.foldl (Md.drop1 kp v) s
def Md.dropO (kp : Int → Bool) (l : List Int) (o : List Int) (s : Md) : Md := o.foldl (fun s v => s.dropV kp v l) s
noncomputable def Md.sweep (s : Md) (rs : List Int) : Md := s.dropO (s.keep rs) s.all s.ord
structure Swp (s0 : Md) (rs : List Int) (s : Md) : Prop where
  good : s.Good []
  ord : s.ord = s0.ord
  most : s.a.most = s0.a.most
  N : s.N = s0.N
  has : ∀ n, s.has n = true → s0.has n = true
  kept : ∀ n, s0.Rc rs n → s.has n = true
theorem Swp.nd (h : Swp s rs s') : s'.nd n = s.nd n := by unfold Md.nd; rw [h.N]
theorem Swp.start (G : s.Good []) : Swp s rs s := ⟨G, rfl, rfl, rfl, fun _ h => h, fun _ h => h.has⟩
def Ahd (s0 : Md) (rs : List Int) (s : Md) (v : Int) : Prop := ∀ n, s.has n = true → lvl s0.ord (s.nd n).1 < lvl s0.ord v → s0.Rc rs n
theorem Swp.free (h : Swp s rs s') (G : s.Good []) (ha : Ahd s rs s' v) (hn : s'.of n v = true) (hk : s.keep rs n = false) : s'.has n = true ∧ s'.pointed n = false := by
  unfold Md.of at hn
  rw [Bool.and_eq_true] at hn
  have hv : (s'.nd n).1 = v := by simpa using hn.2
  refine ⟨hn.1, ?_⟩
  cases hp : s'.pointed n with
  | false => rfl
  | true =>
    exfalso
    unfold Md.pointed at hp
    obtain ⟨m, hm, he⟩ := List.any_eq_true.1 hp
    have hmh := h.good.wf.mem_all.1 hm
    have ok := h.good.node m hmh (by simp)
    have nk : ¬ s.Rc rs n := fun hr => by rw [Md.keep_iff.2 hr] at hk; cases hk
    have lt : ∀ c, s'.below c (s'.nd m).1 = true → c = n → lvl s.ord (s'.nd m).1 < lvl s.ord v := fun c hb hc => by
      subst hc
      rcases Md.below_iff.1 hb with e | e | e
      · have := Md.has_ge hn.1; omega
      · have := Md.has_ge hn.1; omega
      · rw [h.ord, hv] at e; exact e.2
    rw [Bool.or_eq_true, decide_eq_true_iff, decide_eq_true_iff] at he
    rcases he with he | he
    · have hr := ha m hmh (lt _ ok.lo he)
      rw [h.nd] at he
      exact nk (he ▸ Md.Rc.lo hr (he ▸ h.has n hn.1))
    · have hr := ha m hmh (lt _ ok.hi he)
      rw [h.nd] at he
      exact nk (he ▸ Md.Rc.hi hr (he ▸ h.has n hn.1))
theorem Swp.drop (h : Swp s rs s') (G : s.Good []) (ha : Ahd s rs s' v) (hn : s'.of n v = true) (hk : s.keep rs n = false) : Swp s rs (s'.drop n) ∧ Ahd s rs (s'.drop n) v ∧ (s'.drop n).a.many = s'.a.many - 1 ∧ (∀ m, (s'.drop n).has m = (s'.has m && !decide (m = n))) := by
  obtain ⟨h1, h2⟩ := h.free G ha hn hk
  have hd := fun m => Md.has_drop (m := m) h1
  refine ⟨⟨h.good.drop h1 h2, h.ord, h.most, h.N, fun m hm => ?_, fun m hm => ?_⟩, fun m hm hl => ?_, (h.good.wf.drop h1).2, hd⟩
  · rw [hd, Bool.and_eq_true] at hm; exact h.has m hm.1
  · rw [hd, h.kept m hm, Bool.true_and]
    cases hmn : decide (m = n) with
    | false => rfl
    | true => rw [of_decide_eq_true hmn] at hm; rw [Md.keep_iff.2 hm] at hk; cases hk
  · rw [hd, Bool.and_eq_true] at hm; exact ha m hm.1 hl
theorem Swp.one (h : Swp s rs s') (G : s.Good []) (ha : Ahd s rs s' v) : Swp s rs (s'.drop1 (s.keep rs) v n) ∧ Ahd s rs (s'.drop1 (s.keep rs) v n) v ∧ (∀ m, (s'.drop1 (s.keep rs) v n).has m = (s'.has m && !(decide (m = n) && (decide ((s.nd m).1 = v) && !s.keep rs m)))) := by
  unfold Md.drop1
  cases ho : s'.of n v && !s.keep rs n with
  | false =>
    rw [if_neg (by simp)]
    refine ⟨h, ha, fun m => ?_⟩
    by_cases e : m = n
    · subst e
      unfold Md.of at ho
      rw [h.nd] at ho
      cases hh : s'.has m with
      | false => rfl
      | true =>
        rw [hh, Bool.true_and] at ho
        rw [ho]; simp
    · simp [e]
  | true =>
    rw [if_pos rfl]
    rw [Bool.and_eq_true] at ho
    have hk : s.keep rs n = false := by simpa using ho.2
    obtain ⟨a, b, _, d⟩ := h.drop G ha ho.1 hk
    refine ⟨a, b, fun m => ?_⟩
    rw [d]
    by_cases e : m = n
    · subst e
      have hv := ho.1
      unfold Md.of at hv
      rw [Bool.and_eq_true, h.nd] at hv
      rw [hk, hv.2]; simp
    · simp [e]
theorem Swp.lev (G : s.Good []) : ∀ (l : List Int) {s' : Md}, Swp s rs s' → Ahd s rs s' v → Swp s rs (s'.dropV (s.keep rs) v l) ∧ Ahd s rs (s'.dropV (s.keep rs) v l) v ∧ (∀ m, (s'.dropV (s.keep rs) v l).has m = (s'.has m && !(decide (m ∈ l) && (decide ((s.nd m).1 = v) && !s.keep rs m))))
  | [], s', h, ha => ⟨h, ha, fun m => by simp [Md.dropV]⟩
  | n :: l, s', h, ha => by
    obtain ⟨a, b, c⟩ := h.one (n := n) G ha
    obtain ⟨a2, b2, c2⟩ := Swp.lev G l a b
    refine ⟨a2, b2, fun m => ?_⟩
    show (Md.dropV (s.keep rs) v l (s'.drop1 (s.keep rs) v n)).has m = _
    rw [c2, c]
    cases s'.has m <;> cases decide ((s.nd m).1 = v) <;> cases s.keep rs m <;> simp
theorem Swp.levels (G : s.Good []) : ∀ (o : List Int) (k : Nat) {s' : Md}, s.ord.drop k = o → Swp s rs s' → (∀ n, s'.has n = true → lvl s.ord (s.nd n).1 < k → s.Rc rs n) → Swp s rs (s'.dropO (s.keep rs) s.all o) ∧ ∀ n, (s'.dropO (s.keep rs) s.all o).has n = true → s.Rc rs n
  | [], k, s', ho, h, ha => by
    refine ⟨h, fun n hn => ha n hn ?_⟩
    have hn' : s'.has n = true := hn
    have hv := (G.node n (h.has n hn') (by simp)).var
    have hl := G.wf.ord.lt hv
    have h8 := G.wf.ord.len
    have := congrArg List.length ho
    simp at this
    omega
  | v :: o, k, s', ho, h, ha => by
    have hk : s.ord[k]? = some v := by have := congrArg (·[0]?) ho; simpa using this
    have hlv := G.wf.ord.lvl hk
    have ha' : Ahd s rs s' v := fun n hn hl => ha n hn (by rw [h.nd] at hl; omega)
    obtain ⟨a, b, c⟩ := Swp.lev G s.all h ha'
    show Swp s rs (Md.dropO (s.keep rs) s.all o (s'.dropV (s.keep rs) v s.all)) ∧ _
    refine Swp.levels G o (k + 1) (by rw [← List.drop_drop, ho]; rfl) a fun n hn hl => ?_
    rw [c, Bool.and_eq_true] at hn
    by_cases hlk : lvl s.ord (s.nd n).1 < k
    · exact ha n hn.1 hlk
    · have hv := (G.node n (h.has n hn.1) (by simp)).var
      have hvr := G.wf.ord.rng k v hk
      have e : (s.nd n).1 = v := G.wf.ord.inj hv hvr (by rw [hlv]; omega)
      have h2 := hn.2
      rw [e] at h2
      have hm : n ∈ s.all := G.wf.mem_all.2 (h.has n hn.1)
      simp [hm] at h2
      exact Md.keep_iff.1 h2
structure Swept (s : Md) (rs : List Int) (s' : Md) : Prop where
  swp : Swp s rs s'
  only : ∀ n, s'.has n = true ↔ s.Rc rs n
theorem Md.Good.swept (G : s.Good []) : Swept s rs (s.sweep rs) := by
  obtain ⟨a, b⟩ := Swp.levels (rs := rs) G s.ord 0 rfl (Swp.start G) fun n hn hl => by
    have hv := (G.node n hn (by simp)).var
    have := G.wf.ord.lt hv
    omega
  exact ⟨a, fun n => ⟨b n, a.kept n⟩⟩
end
end Go.Bx

