/- Walks of layer 18: may a request be; its bytes. -/
import Derived.Test.YtghcmogbmaedfaaWire2
namespace Go.Proofs.Ytghcmogbmaedfaa
open Go Go.Bx
set_option linter.unusedSimpArgs false
set_option linter.unusedVariables false
set_option maxRecDepth 100000
set_option maxHeartbeats 4000000
attribute [local irreducible] X XO XE XF XD XW thenX inX retX kN CallsR
abbrev rqA (r : RQ) : Array Value := #[.int .i64 r.op, .int .i64 r.tn, .int .u64 (r.a : Int), .int .u64 (r.b : Int), .int .u64 (r.c : Int), .int .i64 r.n, .int .i64 r.bit]
theorem may_no {r : RQ} (h : ¬ ((1 ≤ r.op ∧ r.op ≤ 21) ∧ 1 ≤ r.tn ∧ r.tn ≤ 8 ∧ 0 ≤ r.n ∧ r.n ≤ mostV r.op ∧ 0 ≤ r.bit ∧ r.bit ≤ 1)) : mayF r = false := by
  cases hm : mayF r
  · rfl
  · have := may_parts hm
    exact absurd ⟨this.1, this.2.1, this.2.2.1, this.2.2.2.1, this.2.2.2.2.1, this.2.2.2.2.2.1, this.2.2.2.2.2.2.1⟩ h
theorem may_calls (r : RQ) (hr : r.ok) (w : World) : CallsR Try.prog 70 #[rqV r] w fun v w' => v = .bool (mayF r) ∧ Ext w w' := by
  by_cases hin : 1 ≤ r.op ∧ r.op ≤ 21
  case neg =>
    have hm := may_no (r := r) (fun h => hin h.1)
    have ho := (pl_out hin).2
    refine en1 Try.func70 Try.results70 mixed [] ?_
    intro e0 h0
    refine w_ fun d => ?_
    refine (parts_calls r.op _).mono ?_
    rintro _ w1 ⟨⟨a, cap, rfl, sl, new⟩, hE⟩
    have hs1 := sz_ hE
    rw [ho]
    simp only [Option.isSome_none]
    refine w_ fun d => ?_
    exact ⟨by rw [hm], ext_⟩
  obtain ⟨kk, hkk, hkk2, hsome⟩ := pl_in hin
  have hnd := parts_nodup_all kk hkk2
  rw [← hkk] at hnd
  have cm : Sure Try.prog 84 #[.int .i64 r.op] _ := most_calls r.op hin
  generalize hmo : mostV r.op = mo at cm
  have hmo2 : -1 < mo ∧ mo ≤ 65535 := by
    have := (parts_most_all kk hkk2).2.2
    have h0 : ∀ k : Nat, k < 22 → -1 < mostV k := by decide
    have := h0 kk hkk2
    rw [← hkk] at *
    omega
  clear hkk
  by_cases hg : 1 ≤ r.tn ∧ r.tn ≤ 8 ∧ 0 ≤ r.n ∧ r.n ≤ mo ∧ 0 ≤ r.bit ∧ r.bit ≤ 1
  case neg =>
    have hm := may_no (r := r) (fun h => hg (by rw [← hmo]; exact h.2))
    clear hmo
    refine en1 Try.func70 Try.results70 mixed [] ?_
    intro e0 h0
    refine w_ fun d => ?_
    refine (parts_calls r.op _).mono ?_
    rintro _ w1 ⟨⟨a, cap, rfl, sl, new⟩, hE⟩
    have hs1 := sz_ hE
    rw [hsome]
    simp only [Option.isSome_some]
    clear hsome
    by_cases t1 : r.tn < 1
    · refine w_ fun d => ?_
      exact ⟨by rw [hm], ext_⟩
    by_cases t2 : 8 < r.tn
    · refine w_ fun d => ?_
      exact ⟨by rw [hm], ext_⟩
    by_cases t3 : r.n < 0
    · refine w_ fun d => ?_
      exact ⟨by rw [hm], ext_⟩
    by_cases t4 : mo < r.n
    · refine w_ fun d => ?_
      intro w2 hE2 hs2
      refine w_ fun d => ?_
      exact ⟨by rw [hm], ext_⟩
    by_cases t5 : r.bit < 0
    · refine w_ fun d => ?_
      intro w2 hE2 hs2
      refine w_ fun d => ?_
      exact ⟨by rw [hm], ext_⟩
    · have t6 : 1 < r.bit := by omega
      refine w_ fun d => ?_
      intro w2 hE2 hs2
      refine w_ fun d => ?_
      exact ⟨by rw [hm], ext_⟩
  have hmw := may_eq hr
  have hmf : mayF r = decide (onlyR r (pl r.op) = r) := by
    rw [← hmw, mayW, hsome, hmo]
    simp [hg]
  clear hmw hmo
  obtain ⟨g1, g2, g3, g4, g5, g6⟩ := hg
  refine en1 Try.func70 Try.results70 mixed [] ?_
  intro e0 h0
  refine w_ fun d => ?_
  refine (parts_calls r.op _).mono ?_
  rintro _ w1 ⟨⟨a, cap, rfl, sl, new⟩, hE⟩
  have hs1 := sz_ hE
  rw [hsome]
  simp only [Option.isSome_some]
  clear hsome
  refine w_ fun d => ?_
  intro w2 hE2 hs2
  refine w_ fun d => ?_
  have hlt2 : ∀ g, blk a = some g → g < w2.heap.size := fun g hg => by have := sl.lt hg; omega
  refine lo_ (fun W e w' => ∃ (k : Nat) (s : RQ), k ≤ (pl r.op).length ∧ e 56 = .int .i64 k ∧ Box (s = ((pl r.op).take k).foldl (fun s p => setV s p (partV r p)) ⟨r.op, r.tn, 0, 0, 0, 0, 0⟩) ∧ w'.heap[w2.heap.size]? = some (.cells (rqA s) 50 (0, 0)) ∧ SlI w' a cap (pl r.op) ∧ w'.heap[w.heap.size]? = some (.cells (rqA r) 50 (0, 0)) ∧ Ext w w') (fun e _ => (pl r.op).length - nat (e 56)) ?_ ?_
  · exact ⟨0, ⟨r.op, r.tn, 0, 0, 0, 0, 0⟩, by omega, eA rfl, ⟨rfl⟩, hA rfl, Sl.ext sl ext_, hA rfl, ext_⟩
  clear sl
  rintro e w3 hf ⟨k, s, hk, h56, ⟨hs⟩, hb, sl, hbr, hE3⟩
  have hs3 := sz_ hE3
  have hlb := lt_of_heap hb
  by_cases hlt : k < (pl r.op).length
  · obtain ⟨p, hp⟩ : ∃ p, (pl r.op)[k]? = some p := ⟨(pl r.op)[k], List.getElem?_eq_getElem hlt⟩
    have hp5 := hnd.2.2 p (List.mem_of_getElem? hp)
    obtain ⟨b', c', rfl, hb', hc'⟩ := inpI sl hp
    have hlb' := hlt2 b' rfl
    have hfo : setV s p (partV r p) = ((pl r.op).take (k + 1)).foldl (fun s p => setV s p (partV r p)) ⟨r.op, r.tn, 0, 0, 0, 0, 0⟩ := by
      rw [List.take_add_one, hp, List.foldl_append, ← hs]; rfl
    have hk3 : (pl r.op).length ≤ 3 := hnd.2.1
    clear hs hp
    refine w_ fun d => ?_
    refine callQ (part_calls r p hp5 _) fun w4 hE4 hs4 => ?_
    refine w_ fun d => ?_
    have hb4 : w4.heap[w2.heap.size]? = some (.cells (rqV s).cells 50 (0, 0)) := hA rfl
    refine (set_calls s p hp5 (partV r p) (part_lt hr p) w2.heap.size _ hb4).mono ?_
    rintro _ _ ⟨rfl, rfl⟩
    have hbr4 : w4.heap[w.heap.size]? = some (.cells (rqA r) 50 (0, 0)) := hA rfl
    have sl4 := Sl.ext sl hE4
    have hlb4 := lt_of_heap hb4
    generalize hS : setV s p (partV r p) = S at *
    refine w_ fun d => ?_
    exact ⟨⟨k + 1, S, by omega, eA (by push_cast; rfl), ⟨hfo⟩, hA rfl, Sl.keep sl4 fun g hg => upd_other (by have := blk_g hg; omega), hA rfl, ext_⟩, mA⟩
  · obtain rfl : k = (pl r.op).length := by omega
    rw [List.take_length] at hs
    have hs' : s = onlyR r (pl r.op) := hs
    have hd : decide ([s.op, s.tn, (s.a : Int), (s.b : Int), (s.c : Int), s.n, s.bit] = [r.op, r.tn, (r.a : Int), (r.b : Int), (r.c : Int), r.n, r.bit]) = mayF r := by
      rw [hmf, ← hs']
      exact decide_eq_decide.2 rqL_inj
    clear hs hs' hmf
    refine w_ fun d => ?_
    exact ⟨by rw [← hd], ext_⟩
end Go.Proofs.Ytghcmogbmaedfaa
