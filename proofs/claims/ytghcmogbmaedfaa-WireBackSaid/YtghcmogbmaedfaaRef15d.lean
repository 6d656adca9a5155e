/- Walks of the reference of layer 18: a request's bytes. -/
import Derived.Test.YtghcmogbmaedfaaRef15c
namespace Go.Proofs.Ytghcmogbmaedfaa
open Go Go.Bx
set_option linter.unusedSimpArgs false
set_option linter.unusedVariables false
set_option maxRecDepth 100000
set_option maxHeartbeats 4000000
attribute [local irreducible] X XO XE XF XD XW thenX inX retX kN CallsR
theorem hi_one {v : Nat} (h : v < 256) : hiB 1 v = [v] := by simp [hiB, Nat.mod_eq_of_lt h]
theorem refPut_calls (r : RQ) (hr : r.ok) (hm : mayF r = true) (w : World) : CallsR Try.prog 56 #[rqV r] w fun v w' =>
    (∃ a cap, v = .slice a (putB r).length cap ∧ SlB w' a cap (putB r) ∧ ∀ g, blk a = some g → w.heap.size ≤ g) ∧ Ext w w' := by
  obtain ⟨hin, t1, t2, n1, n2, b1, b2, _⟩ := may_parts hm
  obtain ⟨kk, hkk, hkk2, hsome⟩ := pl_in hin
  have hnd := parts_nodup_all kk hkk2
  have hms := parts_most_all kk hkk2
  have hfa := (form_all kk hkk2 (by omega)).1
  rw [← hkk] at hnd hms hfa
  have n3 : r.n ≤ 65535 := by have := hms.2.2; omega
  have n4 : 3 ∈ pl r.op → r.n ≤ 255 := fun h => by have := hms.1 h; omega
  have cf := form_calls r.op
  have hflt := @form_lt r.op
  obtain ⟨k0, k1, k2, k3, k4, k5⟩ := chr_vals
  have un := u64_toU r.n
  clear hkk hsome hms n2 hm
  generalize hFL : formL r.op = FL at *
  have hFLl : FL.length = (pl r.op).length := by rw [hfa, List.length_map]
  have hfab : Box (FL = (pl r.op).map chr) := ⟨hfa⟩
  clear hfa
  refine en1 Try.func56 Try.results56 mixed [] ?_
  intro e0 h0
  refine w_ fun d => ?_
  have hrow : (#[.int .u8 r.op, .int .u8 r.tn] : Array Value) = rowsB [r.op.toNat, r.tn.toNat] := by
    have e1 : ((r.op.toNat : Nat) : Int) = r.op := by omega
    have e2 : ((r.tn.toNat : Nat) : Int) = r.tn := by omega
    simp [rowsB, byteRow, e1, e2]
  refine callQ (cf _) fun w2 hE2 hs2 => ?_
  have slb : SlB w2 (some ⟨w.heap.size + 1, 0, none⟩) 2 [r.op.toNat, r.tn.toNat] := madeB (hA rfl) hrow (by simp) rfl
  clear hrow
  refine w_ fun d => ?_
  refine lo_ (fun W e w' => ∃ (k : Nat) (X : List Nat) (a : Option Addr) (cap : Nat), k ≤ (pl r.op).length ∧ e 5 = .int .i64 k ∧ e 3 = .slice a X.length cap ∧ Box (X = r.op.toNat :: r.tn.toNat :: bodyB r ((pl r.op).take k)) ∧ X.length ≤ 2 + 8 * k ∧ SlB w' a cap X ∧
    (∀ g, blk a = some g → w.heap.size + 1 ≤ g) ∧ w'.heap[w.heap.size]? = some (.cells (rqA r) 50 (0, 0)) ∧ w.heap.size + 2 ≤ w'.heap.size ∧ Ext w w') (fun e _ => (pl r.op).length - nat (e 5)) ?_ ?_
  · exact ⟨0, [r.op.toNat, r.tn.toNat], some ⟨w.heap.size + 1, 0, none⟩, 2, by omega, eA rfl, eA rfl, ⟨by simp [bodyB]⟩, by simp, slb, (fun g hg => by have := blk_g hg; omega), hA rfl, by omega, ext_⟩
  clear slb
  rintro e w3 hf ⟨k, X, a, cap, hk, h5, h3, hXb, hXl, sl, new, hbr, hsz3, hE3⟩
  by_cases hlt : k < (pl r.op).length
  case neg =>
    obtain rfl : k = (pl r.op).length := by omega
    have hX := hXb.out
    rw [List.take_length] at hX
    have hX' : X = putB r := hX
    clear hX hXb
    subst hX'
    refine w_ fun d => ?_
    exact ⟨⟨a, cap, rfl, sl, fun g hg => by have := new g hg; omega⟩, ext_⟩
  obtain ⟨p, hp⟩ : ∃ p, (pl r.op)[k]? = some p := ⟨(pl r.op)[k], List.getElem?_eq_getElem hlt⟩
  have hp5 := hnd.2.2 p (List.mem_of_getElem? hp)
  have hbt := bodyB_take (r := r) hp
  have hk3 : (pl r.op).length ≤ 3 := hnd.2.1
  have hFk : FL[k]? = some (chr p) := by rw [hfab.out, List.getElem?_map, hp]; rfl
  have hix := ixS hFk (chr_lt p)
  have n4' : p = 3 → r.n ≤ 255 := fun h => n4 (by rw [← h]; exact List.mem_of_getElem? hp)
  have hw8 := wide_le p
  have hXn : Box (X ++ hiB (wideV p) (partV r p) = r.op.toNat :: r.tn.toNat :: bodyB r ((pl r.op).take (k + 1))) := ⟨by rw [hbt, hXb.out]; simp⟩
  have hXnl : (X ++ hiB (wideV p) (partV r p)).length ≤ 2 + 8 * (k + 1) := by rw [List.length_append, hiB_len]; omega
  have hfin : ∀ (e2 : Env) (w2 w6 : World) (a2 : Option Addr) (cap2 : Nat), e2 5 = .int .i64 ((k : Int) + 1) → e2 3 = .slice a2 (X ++ hiB (wideV p) (partV r p)).length cap2 → SlB w6 a2 cap2 (X ++ hiB (wideV p) (partV r p)) → Ext w3 w2 → Chg (fun k => blk a = some k) w2 w6 → (∀ g, blk a2 = some g → blk a = some g ∨ w2.heap.size ≤ g) →
      (∃ (k : Nat) (X : List Nat) (a : Option Addr) (cap : Nat), k ≤ (pl r.op).length ∧ e2 5 = .int .i64 k ∧ e2 3 = .slice a X.length cap ∧ Box (X = r.op.toNat :: r.tn.toNat :: bodyB r ((pl r.op).take k)) ∧ X.length ≤ 2 + 8 * k ∧ SlB w6 a cap X ∧
        (∀ g, blk a = some g → w.heap.size + 1 ≤ g) ∧ w6.heap[w.heap.size]? = some (.cells (rqA r) 50 (0, 0)) ∧ w.heap.size + 2 ≤ w6.heap.size ∧ Ext w w6) := fun e2 w2 w6 a2 cap2 h1 h2 h3 h4 h5 h6 => by
    have hz1 := h4.size
    have hz2 := h5.size
    refine ⟨k + 1, _, a2, cap2, by omega, by rw [h1]; rfl, h2, hXn, hXnl, h3, fun g hg => ?_, ?_, by omega, h5.toExt (hE3.trans h4) fun g hg h => by have := new _ h; omega⟩
    · rcases h6 g hg with h | h
      · exact new g h
      · omega
    · rw [h5.heap _ (by omega) (fun h => by have := new _ h; omega), h4.heap _ (by omega)]; exact hbr
  have hXl2 : X.length ≤ 26 := by omega
  clear hp hbt hXn hXnl hXb n4 hFk hXl
  rcases (by omega : p = 0 ∨ p = 1 ∨ p = 2 ∨ p = 3 ∨ p = 4 ∨ p = 5) with rfl | rfl | rfl | rfl | rfl | rfl
  · refine w_ fun d => ?_
    refine (high_calls r.a 8 (by decide) hr.a _).mono ?_
    rintro _ w5 ⟨⟨ah, ch, rfl, slh, nh⟩, hE5⟩
    have hE35 : Ext w3 w5 := ext_
    obtain ⟨a2, cap2, w6, hr6, sl6, hC6, hF6⟩ := appB (c := ch) (Sl.ext sl hE35) (Sl.inp slh) (by rw [hiB_len]; omega)
    refine w_ fun d => ?_
    exact ⟨hfin _ w5 w6 a2 cap2 (eA rfl) (eA rfl) sl6 hE35 hC6 (fun g hg => (hF6 g hg).imp id fun h => h.1), mA⟩
  · refine w_ fun d => ?_
    refine (high_calls r.b 8 (by decide) hr.b _).mono ?_
    rintro _ w5 ⟨⟨ah, ch, rfl, slh, nh⟩, hE5⟩
    have hE35 : Ext w3 w5 := ext_
    obtain ⟨a2, cap2, w6, hr6, sl6, hC6, hF6⟩ := appB (c := ch) (Sl.ext sl hE35) (Sl.inp slh) (by rw [hiB_len]; omega)
    refine w_ fun d => ?_
    exact ⟨hfin _ w5 w6 a2 cap2 (eA rfl) (eA rfl) sl6 hE35 hC6 (fun g hg => (hF6 g hg).imp id fun h => h.1), mA⟩
  · refine w_ fun d => ?_
    refine (high_calls r.c 8 (by decide) hr.c _).mono ?_
    rintro _ w5 ⟨⟨ah, ch, rfl, slh, nh⟩, hE5⟩
    have hE35 : Ext w3 w5 := ext_
    obtain ⟨a2, cap2, w6, hr6, sl6, hC6, hF6⟩ := appB (c := ch) (Sl.ext sl hE35) (Sl.inp slh) (by rw [hiB_len]; omega)
    refine w_ fun d => ?_
    exact ⟨hfin _ w5 w6 a2 cap2 (eA rfl) (eA rfl) sl6 hE35 hC6 (fun g hg => (hF6 g hg).imp id fun h => h.1), mA⟩
  · have n5 := n4' rfl
    have hv : toU r.n < 256 := by unfold toU; omega
    have hcell : (#[.int .u8 r.n] : Array Value) = rowsB (hiB 1 (toU r.n)) := by
      have e1 : ((toU r.n : Nat) : Int) = r.n := by unfold toU; omega
      rw [hi_one hv]
      simp [rowsB, byteRow, e1]
    obtain ⟨a2, cap2, w6, hr6, sl6, hC6, hlt6, hF6⟩ := pushB (k := 1) sl hcell (by rw [hiB_len]; omega) (by rw [hiB_len])
    clear hcell
    refine w_ fun d => ?_
    exact ⟨hfin _ w3 w6 a2 cap2 (eA rfl) (eA rfl) sl6 ext_ hC6 (fun g hg => (hF6 g hg).imp id fun h => h.1), mA⟩
  · refine w_ fun d => ?_
    refine (high_calls (toU r.n) 2 (by decide) (by unfold toU; omega) _).mono ?_
    rintro _ w5 ⟨⟨ah, ch, rfl, slh, nh⟩, hE5⟩
    have hE35 : Ext w3 w5 := ext_
    obtain ⟨a2, cap2, w6, hr6, sl6, hC6, hF6⟩ := appB (c := ch) (Sl.ext sl hE35) (Sl.inp slh) (by rw [hiB_len]; omega)
    refine w_ fun d => ?_
    exact ⟨hfin _ w5 w6 a2 cap2 (eA rfl) (eA rfl) sl6 hE35 hC6 (fun g hg => (hF6 g hg).imp id fun h => h.1), mA⟩
  · have hv : toU r.bit < 256 := by unfold toU; omega
    have hcell : (#[.int .u8 r.bit] : Array Value) = rowsB (hiB 1 (toU r.bit)) := by
      have e1 : ((toU r.bit : Nat) : Int) = r.bit := by unfold toU; omega
      rw [hi_one hv]
      simp [rowsB, byteRow, e1]
    obtain ⟨a2, cap2, w6, hr6, sl6, hC6, hlt6, hF6⟩ := pushB (k := 1) sl hcell (by rw [hiB_len]; omega) (by rw [hiB_len])
    clear hcell
    refine w_ fun d => ?_
    exact ⟨hfin _ w3 w6 a2 cap2 (eA rfl) (eA rfl) sl6 ext_ hC6 (fun g hg => (hF6 g hg).imp id fun h => h.1), mA⟩
end Go.Proofs.Ytghcmogbmaedfaa
