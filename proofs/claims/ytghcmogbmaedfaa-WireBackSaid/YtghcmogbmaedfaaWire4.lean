/- Walks of layer 18: a request's bytes, and the request of bytes. -/
import Derived.Test.YtghcmogbmaedfaaWire3
namespace Go.Proofs.Ytghcmogbmaedfaa
open Go Go.Bx
set_option linter.unusedSimpArgs false
set_option linter.unusedVariables false
set_option maxRecDepth 100000
set_option maxHeartbeats 4000000
attribute [local irreducible] X XO XE XF XD XW thenX inX retX kN CallsR
theorem bodyB_take {r : RQ} {l : List Nat} {k p : Nat} (hp : l[k]? = some p) : bodyB r (l.take (k + 1)) = bodyB r (l.take k) ++ hiB (wideV p) (partV r p) := by
  rw [List.take_add_one, hp, bodyB, bodyB, List.flatMap_append]; simp
theorem put_calls (r : RQ) (hr : r.ok) (w : World) : CallsR Try.prog 54 #[rqV r] w fun v w' =>
    ((mayF r = true ∧ ∃ a cap, v = .tuple #[.slice a (putB r).length cap, .nilIface] ∧ SlB w' a cap (putB r) ∧ ∀ g, blk a = some g → w.heap.size ≤ g) ∨ (mayF r = false ∧ v = .tuple #[.slice none 0 0, .iface 81 (.int .i64 1)])) ∧ Ext w w' := by
  cases hm : mayF r
  · refine en1 Try.func54 Try.results54 mixed [] ?_
    intro e0 h0
    refine w_ fun d => ?_
    refine callQ (may_calls r hr _) fun w1 hE1 hs1 => ?_
    rw [hm]
    refine w_ fun d => ?_
    exact ⟨.inr ⟨rfl, rfl⟩, ext_⟩
  have hcm : ∀ w, CallsR Try.prog 70 #[rqV r] w fun v w' => v = .bool true ∧ Ext w w' := fun w => by
    have := may_calls r hr w
    rwa [hm] at this
  obtain ⟨hin, t1, t2, n1, n2, b1, b2, _⟩ := may_parts hm
  clear n1 n2 b1 b2
  obtain ⟨kk, hkk, hkk2, hsome⟩ := pl_in hin
  have hnd := parts_nodup_all kk hkk2
  rw [← hkk] at hnd
  clear hkk hsome
  refine en1 Try.func54 Try.results54 mixed [] ?_
  intro e0 h0
  refine w_ fun d => ?_
  refine callQ (hcm _) fun w1 hE1 hs1 => ?_
  refine w_ fun d => ?_
  refine (parts_calls r.op _).mono ?_
  rintro _ w2 ⟨⟨ap, cp, rfl, sp, np⟩, hE2⟩
  have hs2 := sz_ hE2
  have hb2 : w2.heap[w1.heap.size]? = some (.cells #[.int .u8 r.op, .int .u8 r.tn] 5 (0, 0)) := hA rfl
  have hrow : (#[.int .u8 r.op, .int .u8 r.tn] : Array Value) = rowsB [r.op.toNat, r.tn.toNat] := by
    have e1 : ((r.op.toNat : Nat) : Int) = r.op := by omega
    have e2 : ((r.tn.toNat : Nat) : Int) = r.tn := by omega
    simp [rowsB, byteRow, e1, e2]
  have slb : SlB w2 (some ⟨w1.heap.size, 0, none⟩) 2 [r.op.toNat, r.tn.toNat] := madeB hb2 hrow (by simp) rfl
  clear hrow hb2
  refine w_ fun d => ?_
  refine lo_ (fun W e w' => ∃ (k : Nat) (X : List Nat) (a : Option Addr) (cap : Nat), k ≤ (pl r.op).length ∧ e 28 = .int .i64 k ∧ e 4 = .slice a X.length cap ∧ Box (X = r.op.toNat :: r.tn.toNat :: bodyB r ((pl r.op).take k)) ∧ X.length ≤ 2 + 8 * k ∧ SlB w' a cap X ∧
    (∀ g, blk a = some g → w1.heap.size ≤ g ∧ blk ap ≠ some g) ∧ SlI w' ap cp (pl r.op) ∧ w'.heap[w.heap.size]? = some (.cells (rqA r) 50 (0, 0)) ∧ w2.heap.size ≤ w'.heap.size ∧ Ext w w') (fun e _ => (pl r.op).length - nat (e 28)) ?_ ?_
  · exact ⟨0, [r.op.toNat, r.tn.toNat], some ⟨w1.heap.size, 0, none⟩, 2, by omega, eA rfl, eA rfl, ⟨by simp [bodyB]⟩, by simp, slb, fun g hg => ⟨by have := blk_g hg; omega, fun h => by have := np g h; have := blk_g hg; simp only [alloc_size] at *; omega⟩, sp, hA rfl, Nat.le_refl _, ext_⟩
  clear slb sp
  rintro e w3 hf ⟨k, X, a, cap, hk, h28, h4, hXb, hXl, sl, new, sp, hbr, hsz3, hE3⟩
  have hs3 := sz_ hE3
  by_cases hlt : k < (pl r.op).length
  · obtain ⟨p, hp⟩ : ∃ p, (pl r.op)[k]? = some p := ⟨(pl r.op)[k], List.getElem?_eq_getElem hlt⟩
    have hp5 := hnd.2.2 p (List.mem_of_getElem? hp)
    obtain ⟨b', c', rfl, hb', hc'⟩ := inpI sp hp
    have hlb' := lt_of_heap hb'
    have hbt := bodyB_take (r := r) hp
    have hk3 : (pl r.op).length ≤ 3 := hnd.2.1
    have hw8 := wide_le p
    clear hp
    refine w_ fun d => ?_
    refine callQ (part_calls r p hp5 _) fun w4 hE4 hs4 => ?_
    refine w_ fun d => ?_
    refine callQ (wide_calls p hp5 _) fun w5 hE5 hs5 => ?_
    refine w_ fun d => ?_
    have hE35 : Ext w3 w5 := ext_
    refine (number_calls X (partV r p) (wideV p) hw8 (by omega) a cap _ (Sl.ext sl hE35)).mono ?_
    rintro _ w6 ⟨⟨a2, cap2, rfl, sl6, new6⟩, hC6⟩
    refine w_ fun d => ?_
    refine ⟨⟨k + 1, X ++ hiB (wideV p) (partV r p), a2, cap2, by omega, eA (by push_cast; rfl), eA rfl, ⟨by rw [hbt, hXb.out]; simp⟩, by rw [List.length_append, hiB_len]; omega, sl6, fun g hg => ?_, ?_, ?_, ?_, ?_⟩, mA⟩
    · rcases new6 g hg with h | h
      · exact new g h
      · exact ⟨by omega, fun h => by have := blk_g h; omega⟩
    · exact Sl.chg (Sl.ext sp hE35) hC6 fun g hg h => (new g h).2 hg
    · rw [hC6.heap _ (by have := lt_of_heap hbr; omega) (fun h => by have := (new _ h).1; omega), hE35.heap _ (lt_of_heap hbr)]; exact hbr
    · have := hC6.size; omega
    · exact hC6.toExt (hE3.trans hE35) fun g hg h => by have := (new g h).1; omega
  · obtain rfl : k = (pl r.op).length := by omega
    have hX := hXb.out
    rw [List.take_length] at hX
    have hX' : X = putB r := hX
    clear hX
    subst hX'
    refine w_ fun d => ?_
    exact ⟨.inl ⟨rfl, a, cap, rfl, sl, fun g hg => by have := (new g hg).1; omega⟩, ext_⟩
end Go.Proofs.Ytghcmogbmaedfaa
