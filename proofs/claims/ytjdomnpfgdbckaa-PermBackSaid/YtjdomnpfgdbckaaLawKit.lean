/- From a law's walk to its given statement: what every law shares. -/
import Derived.Test.YtjdomnpfgdbckaaBxOps
import Derived.WalkKit
import Derived.ProofKit
import Derived.OpenShut
import Derived.ShutString
import Derived.ChangeOld
import Derived.Below
import Derived.Carry
import Derived.SizedLaws
import Derived.KernelRfl
namespace Go.Bx
open Go Go.ChangeShapes Go.WideShapes Go.ChangeAt Go.RowKit

theorem Ext.below {W W' : World} (h : Ext W W') : Below W.heap.size W W' := ⟨h.os, h.tape, h.output, h.size, h.heap⟩

section
variable {H : Type} {enc : TypeId × Value → H} {P : Program}

theorem trodAll_stays (hl : laidOutB P = true) {W W' : World} (hE : Ext W W') : ∀ {ts : List TypeId} {vs : List Value} {ds : List (DataW H)} {ps : List MemPlace},
    (∀ t ∈ ts, P.readableRec t = true ∧ t < P.types.size) → DataW.TrodAll enc P W 0 (fun _ => true) true ts vs ds ps → (∀ x ∈ ps, x.block < W.heap.size) →
    DataW.TrodAll enc P W' 0 (fun b => decide (b < W.heap.size)) true ts vs ds ps
  | [], [], [], _, _, h, _ => h
  | t :: ts, v :: vs, d :: ds, _, ht, ⟨p, q, h, hs, e⟩, hlt =>
    ⟨p, q, Below.trod hl (ht t (by simp)).1 (ht t (by simp)).2 h hE.below (fun x hx => hlt x (by rw [e]; exact List.mem_append_left _ hx)),
      trodAll_stays hl hE (fun t hm => ht t (by simp [hm])) hs (fun x hx => hlt x (by rw [e]; exact List.mem_append_right _ hx)), e⟩
  | [], [], _ :: _, _, _, h, _ => h.elim
  | [], _ :: _, _, _, _, h, _ => by cases ‹List (DataW H)› <;> exact h.elim
  | _ :: _, [], _, _, _, h, _ => by cases ‹List (DataW H)› <;> exact h.elim
  | _ :: _, _ :: _, [], _, _, h, _ => h.elim

theorem law_post {f : Func} {s : ChangeSpec} {W W' : World} {args : Array Value} {ds gs : List (DataW H)} {before : List MemPlace} {tb : TypeId}
    (hl : laidOutB P = true) (hts : f.params.toList.all (fun t => P.readableRec t && decide (t < P.types.size)) = true) (hv : s.vars = []) (hrt : f.resultTypes = #[tb]) (hb : P.underlying tb = some .bool)
    (hW : DataW.Whole enc P f.params.toList s.vars false W args.toList ds gs before)
    (hfn : (s.fn H (ds ++ gs)).results = [.lit (.bool true)] ∧ (s.fn H (ds ++ gs)).args = ds ∧ (s.fn H (ds ++ gs)).vars = [])
    (hE : Ext W W') : s.post enc P f false true false false W args (.bool true) W' := by
  have hW' := hW
  obtain ⟨p, q, hA, hV, rfl, _, _⟩ := hW
  rw [hv] at hV
  obtain ⟨rfl, rfl⟩ := trodVars_none hV
  have hlt : ∀ x ∈ p, x.block < W.heap.size := fun x hx => hW'.lt x (by simpa using hx)
  refine ⟨ds, [], _, [], p, [], hW', ?_, ?_, ?_, hE.below.frame _, fun h => by cases h⟩
  · rw [hfn.1, hrt]
    exact trodAll_mk1 (shut_bool hb true)
  · rw [hfn.2.1]
    refine trodAll_stays hl hE (fun t ht => ?_) hA hlt
    have := List.all_eq_true.1 hts t ht
    simpa [Bool.and_eq_true] using this
  · rw [hfn.2.2, hv]
    exact rfl

/-- An array of eight numbers. -/
theorem open_arr8 {r : Reach} {W w : World} {base b0 : Nat} {spare : Nat → Bool} {held : Bool} {t e : TypeId} {v : Value} {d : DataW H} {ps : List MemPlace} (ht : P.underlying t = some (.array 8 e)) (he : P.underlying e = some (.int .i64)) (hce : P.cellsOf e = 1) (hct : P.cellsOf t = 8)
    (hval : Value.okWide P W r b0 t v) (hd : DataW.Trod enc P w base spare held t v d ps) :
    ∃ l : List Int, l.length = 8 ∧ v = aI l ∧ ∀ x ∈ l, (Lit.int .i64 x).wf = true := by
  obtain ⟨cs, rfl, hsz, _⟩ : ∃ cs, v = .agg cs ∧ cs.size = P.cellsOf t ∧ Row.okWide P W r b0 t cs := by
    simpa [Value.okWide, ht] using hval
  rw [hct] at hsz
  obtain ⟨fuel, hf⟩ := hd
  obtain ⟨xs, m, rfl, _, _, hxl, hget⟩ := DataW.trod_array ht hf
  have hall : ∀ i, i < 8 → ∃ n : Int, cs[i]? = some (.int .i64 n) ∧ (Lit.int .i64 n).wf = true := by
    intro i hi
    have h1 := hget i hi
    obtain ⟨y, hy⟩ : ∃ y, xs[i]? = some y := ⟨xs[i], List.getElem?_eq_getElem (by omega)⟩
    rw [hy, hce] at h1
    obtain ⟨n, h2, _, hw⟩ := DataW.trod_int he h1
    refine ⟨n, ?_, hw⟩
    have h3 : cs.toList[i]? = some (.int .i64 n) := by
      have : ((cs.toList.drop (i * 1)).take 1)[0]? = some (.int .i64 n) := by
        show ((Value.cells (.agg cs)).toList.drop (i * 1) |>.take 1)[0]? = _
        rw [h2]; rfl
      simpa using this
    simpa using h3
  refine ⟨cs.toList.map (fun v => match v with | .int _ n => n | _ => 0), by simpa using hsz, ?_, ?_⟩
  · show Value.agg cs = .agg _
    congr 1
    apply Array.ext_getElem?
    intro i
    by_cases hi : i < 8
    · obtain ⟨n, hn, _⟩ := hall i hi
      have hn' : cs.toList[i]? = some (.int .i64 n) := by simpa using hn
      simp [hn, hn']
    · rw [Array.getElem?_eq_none (by omega), Array.getElem?_eq_none (by simp; omega)]
  · intro x hx
    obtain ⟨v, hv, rfl⟩ := List.mem_map.1 hx
    obtain ⟨i, hi⟩ := List.mem_iff_getElem?.1 hv
    have hi8 : i < 8 := by
      have := (List.getElem?_eq_some_iff.1 hi).1
      simpa [hsz] using this
    obtain ⟨n, hn, hw⟩ := hall i hi8
    have hn' : cs.toList[i]? = some (.int .i64 n) := by simpa using hn
    rw [hi] at hn'
    cases hn'
    exact hw
end
end Go.Bx
