/- From a law's walk to its given statement: what every law shares. -/
import Derived.Test.YtghcmogbmaedfaaBxOps
import Derived.Test.YtghcmogbmaedfaaBxList
import Derived.WalkKit
import Derived.ProofKit
import Derived.OpenShut
import Derived.ShutString
import Derived.ChangeOld
import Derived.Below
import Derived.Carry
import Derived.SizedLaws
import Derived.KernelRfl
namespace Go.Bx
open Go Go.ChangeShapes Go.WideShapes Go.ChangeAt Go.RowKit

theorem Ext.below {W W' : World} (h : Ext W W') : Below W.heap.size W W' := ⟨h.os, h.tape, h.output, h.size, h.heap⟩

section
variable {H : Type} {enc : TypeId × Value → H} {P : Program}

theorem trodAll_stays (hl : laidOutB P = true) {W W' : World} (hE : Ext W W') : ∀ {ts : List TypeId} {vs : List Value} {ds : List (DataW H)} {ps : List MemPlace},
    (∀ t ∈ ts, P.readableRec t = true ∧ t < P.types.size) → DataW.TrodAll enc P W 0 (fun _ => true) true ts vs ds ps → (∀ x ∈ ps, x.block < W.heap.size) →
    DataW.TrodAll enc P W' 0 (fun b => decide (b < W.heap.size)) true ts vs ds ps
  | [], [], [], _, _, h, _ => h
  | t :: ts, v :: vs, d :: ds, _, ht, ⟨p, q, h, hs, e⟩, hlt =>
    ⟨p, q, Below.trod hl (ht t (by simp)).1 (ht t (by simp)).2 h hE.below (fun x hx => hlt x (by rw [e]; exact List.mem_append_left _ hx)),
      trodAll_stays hl hE (fun t hm => ht t (by simp [hm])) hs (fun x hx => hlt x (by rw [e]; exact List.mem_append_right _ hx)), e⟩
  | [], [], _ :: _, _, _, h, _ => h.elim
  | [], _ :: _, _, _, _, h, _ => by cases ‹List (DataW H)› <;> exact h.elim
  | _ :: _, [], _, _, _, h, _ => by cases ‹List (DataW H)› <;> exact h.elim
  | _ :: _, _ :: _, [], _, _, h, _ => h.elim

theorem law_post {f : Func} {s : ChangeSpec} {W W' : World} {args : Array Value} {ds gs : List (DataW H)} {before : List MemPlace} {tb : TypeId}
    (hl : laidOutB P = true) (hts : f.params.toList.all (fun t => P.readableRec t && decide (t < P.types.size)) = true) (hv : s.vars = []) (hrt : f.resultTypes = #[tb]) (hb : P.underlying tb = some .bool)
    (hW : DataW.Whole enc P f.params.toList s.vars false W args.toList ds gs before)
    (hfn : (s.fn H (ds ++ gs)).results = [.lit (.bool true)] ∧ (s.fn H (ds ++ gs)).args = ds ∧ (s.fn H (ds ++ gs)).vars = [])
    (hE : Ext W W') : s.post enc P f false true false false W args (.bool true) W' := by
  have hW' := hW
  obtain ⟨p, q, hA, hV, rfl, _, _⟩ := hW
  rw [hv] at hV
  obtain ⟨rfl, rfl⟩ := trodVars_none hV
  have hlt : ∀ x ∈ p, x.block < W.heap.size := fun x hx => hW'.lt x (by simpa using hx)
  refine ⟨ds, [], _, [], p, [], hW', ?_, ?_, ?_, hE.below.frame _, fun h => by cases h⟩
  · rw [hfn.1, hrt]
    exact trodAll_mk1 (shut_bool hb true)
  · rw [hfn.2.1]
    refine trodAll_stays hl hE (fun t ht => ?_) hA hlt
    have := List.all_eq_true.1 hts t ht
    simpa [Bool.and_eq_true] using this
  · rw [hfn.2.2, hv]
    exact rfl

/-- An array of eight numbers. -/
theorem open_arr8 {r : Reach} {W w : World} {base b0 : Nat} {spare : Nat → Bool} {held : Bool} {t e : TypeId} {v : Value} {d : DataW H} {ps : List MemPlace} (ht : P.underlying t = some (.array 8 e)) (he : P.underlying e = some (.int .i64)) (hce : P.cellsOf e = 1) (hct : P.cellsOf t = 8)
    (hval : Value.okWide P W r b0 t v) (hd : DataW.Trod enc P w base spare held t v d ps) :
    ∃ l : List Int, l.length = 8 ∧ v = aI l ∧ ∀ x ∈ l, (Lit.int .i64 x).wf = true := by
  obtain ⟨cs, rfl, hsz, _⟩ : ∃ cs, v = .agg cs ∧ cs.size = P.cellsOf t ∧ Row.okWide P W r b0 t cs := by
    simpa [Value.okWide, ht] using hval
  rw [hct] at hsz
  obtain ⟨fuel, hf⟩ := hd
  obtain ⟨xs, m, rfl, _, _, hxl, hget⟩ := DataW.trod_array ht hf
  have hall : ∀ i, i < 8 → ∃ n : Int, cs[i]? = some (.int .i64 n) ∧ (Lit.int .i64 n).wf = true := by
    intro i hi
    have h1 := hget i hi
    obtain ⟨y, hy⟩ : ∃ y, xs[i]? = some y := ⟨xs[i], List.getElem?_eq_getElem (by omega)⟩
    rw [hy, hce] at h1
    obtain ⟨n, h2, _, hw⟩ := DataW.trod_int he h1
    refine ⟨n, ?_, hw⟩
    have h3 : cs.toList[i]? = some (.int .i64 n) := by
      have : ((cs.toList.drop (i * 1)).take 1)[0]? = some (.int .i64 n) := by
        show ((Value.cells (.agg cs)).toList.drop (i * 1) |>.take 1)[0]? = _
        rw [h2]; rfl
      simpa using this
    simpa using h3
  refine ⟨cs.toList.map (fun v => match v with | .int _ n => n | _ => 0), by simpa using hsz, ?_, ?_⟩
  · show Value.agg cs = .agg _
    congr 1
    apply Array.ext_getElem?
    intro i
    by_cases hi : i < 8
    · obtain ⟨n, hn, _⟩ := hall i hi
      have hn' : cs.toList[i]? = some (.int .i64 n) := by simpa using hn
      simp [hn, hn']
    · rw [Array.getElem?_eq_none (by omega), Array.getElem?_eq_none (by simp; omega)]
  · intro x hx
    obtain ⟨v, hv, rfl⟩ := List.mem_map.1 hx
    obtain ⟨i, hi⟩ := List.mem_iff_getElem?.1 hv
    have hi8 : i < 8 := by
      have := (List.getElem?_eq_some_iff.1 hi).1
      simpa [hsz] using this
    obtain ⟨n, hn, hw⟩ := hall i hi8
    have hn' : cs.toList[i]? = some (.int .i64 n) := by simpa using hn
    rw [hi] at hn'
    cases hn'
    exact hw

/-- An array of numbers. -/
theorem open_ints {r : Reach} {W w : World} {base b0 : Nat} {spare : Nat → Bool} {held : Bool} {t e : TypeId} {N : Nat} {k : IntKind} {v : Value} {d : DataW H} {ps : List MemPlace} (ht : P.underlying t = some (.array N e)) (he : P.underlying e = some (.int k)) (hce : P.cellsOf e = 1) (hct : P.cellsOf t = N)
    (hval : Value.okWide P W r b0 t v) (hd : DataW.Trod enc P w base spare held t v d ps) :
    ∃ l : List Int, l.length = N ∧ v = .agg (l.map (Value.int k)).toArray ∧ ∀ x ∈ l, (Lit.int k x).wf = true := by
  obtain ⟨cs, rfl, hsz, _⟩ : ∃ cs, v = .agg cs ∧ cs.size = P.cellsOf t ∧ Row.okWide P W r b0 t cs := by
    simpa [Value.okWide, ht] using hval
  rw [hct] at hsz
  obtain ⟨fuel, hf⟩ := hd
  obtain ⟨xs, m, rfl, _, _, hxl, hget⟩ := DataW.trod_array ht hf
  have hall : ∀ i, i < N → ∃ n : Int, cs[i]? = some (.int k n) ∧ (Lit.int k n).wf = true := by
    intro i hi
    have h1 := hget i hi
    obtain ⟨y, hy⟩ : ∃ y, xs[i]? = some y := ⟨xs[i], List.getElem?_eq_getElem (by omega)⟩
    rw [hy, hce] at h1
    obtain ⟨n, h2, _, hw⟩ := DataW.trod_int he h1
    refine ⟨n, ?_, hw⟩
    have h3 : cs.toList[i]? = some (.int k n) := by
      have : ((cs.toList.drop (i * 1)).take 1)[0]? = some (.int k n) := by
        show ((Value.cells (.agg cs)).toList.drop (i * 1) |>.take 1)[0]? = _
        rw [h2]; rfl
      simpa using this
    simpa using h3
  refine ⟨cs.toList.map (fun v => match v with | .int _ n => n | _ => 0), by simpa using hsz, ?_, ?_⟩
  · show Value.agg cs = .agg _
    congr 1
    apply Array.ext_getElem?
    intro i
    by_cases hi : i < N
    · obtain ⟨n, hn, _⟩ := hall i hi
      have hn' : cs.toList[i]? = some (.int k n) := by simpa using hn
      simp [hn, hn']
    · rw [Array.getElem?_eq_none (by omega), Array.getElem?_eq_none (by simp; omega)]
  · intro x hx
    obtain ⟨v, hv, rfl⟩ := List.mem_map.1 hx
    obtain ⟨i, hi⟩ := List.mem_iff_getElem?.1 hv
    have hiN : i < N := by
      have := (List.getElem?_eq_some_iff.1 hi).1
      simpa [hsz] using this
    obtain ⟨n, hn, hw⟩ := hall i hiN
    have hn' : cs.toList[i]? = some (.int k n) := by simpa using hn
    rw [hi] at hn'
    cases hn'
    exact hw

theorem exists_list {α : Type} {p : Nat → α → Prop} : ∀ (n : Nat), (∀ i, i < n → ∃ y, p i y) → ∃ ys : List α, ys.length = n ∧ ∀ i y, ys[i]? = some y → p i y
  | 0, _ => ⟨[], rfl, fun i y h => by cases h⟩
  | n + 1, h => by
    obtain ⟨ys, hl, hy⟩ := exists_list n (fun i hi => h i (by omega))
    obtain ⟨y, hp⟩ := h n (by omega)
    refine ⟨ys ++ [y], by simp [hl], fun i z hz => ?_⟩
    rw [List.getElem?_append] at hz
    split at hz
    · exact hy i z hz
    · rename_i hge
      have hi : i = n := by
        have := (List.getElem?_eq_some_iff.1 hz).1
        simp at this; omega
      subst hi
      have : i - ys.length = 0 := by omega
      rw [this] at hz
      cases hz
      exact hp

theorem rd1_some {o : Option Obj} {i : Nat} {u : Value} (h : rd1 o i = some u) : ∃ c E fz, o = some (.cells c E fz) ∧ c[i]? = some u := by
  unfold rd1 at h
  split at h
  · exact ⟨_, _, _, rfl, h⟩
  · cases h

/-- A slice that was handed in, its rows decoded. -/
theorem trod_rows {α : Type} {W : World} {base : Nat} {spare : Nat → Bool} {held : Bool} {fuel t E s : Nat} {cs : List Value} {x : DataW H × List MemPlace} (ht : P.underlying t = some (.slice E)) (hs : P.cellsOf E = s) (hs0 : 0 < s) {f : α → List Value} {good : α → Prop}
    (dec : ∀ n cs x, DataW.trod enc P W base spare held n E cs = some x → ∃ y, cs = f y ∧ good y) (h : DataW.trod enc P W base spare held fuel t cs = some x) :
    ∃ (ys : List α) (a : Option Addr) (cap : Nat), cs = [.slice a ys.length cap] ∧ Inp W s a (ys.map f) ∧ (∀ y ∈ ys, good y) ∧ ys.length ≤ cap ∧ cap ≤ maxLen := by
  rcases DataW.trod_slice ht h with ⟨h0, _⟩ | ⟨a, len, cap, elems, rest, n, _, rfl, _, hb, hl, hm, hlen, hel, _, _⟩
  · exact ⟨[], none, 0, h0, .inl rfl, (fun y hy => by cases hy), by simp, by simp⟩
  · rw [hs] at hel
    have hrow : ∀ i, i < len → ∃ y : α, W.cells? base (a.add (i * s)) s = some (f y) ∧ good y := by
      intro i hi
      have h1 := hel i hi
      rw [List.getElem?_eq_getElem (show i < elems.length by omega)] at h1
      obtain ⟨ci, h2, h3⟩ := Option.bind_eq_some_iff.1 h1
      obtain ⟨y, rfl, hg⟩ := dec _ _ _ h3
      exact ⟨y, h2, hg⟩
    obtain ⟨ys, hyl, hy⟩ := exists_list len hrow
    refine ⟨ys, some a, cap, by rw [hyl], ?_, fun y hm => ?_, by omega, hm⟩
    · by_cases h0 : len = 0
      · subst h0
        left
        rw [List.length_eq_zero_iff.1 hyl]; rfl
      · right
        have hcell : ∀ i y, ys[i]? = some y → ∀ j u, (f y)[j]? = some u → W.cell? ((a.add (i * s)).add j) = some u := by
          intro i y hiy j u hj
          have h1 := (hy i y hiy).1
          unfold World.cells? at h1
          split at h1
          · have hlen2 : (f y).length = s := by simpa using mapM_some_length h1
            have hjs : j < s := by have := (List.getElem?_eq_some_iff.1 hj).1; omega
            have h2 := mapM_some_get h1 j j (by simp [hjs])
            rw [hj] at h2
            exact h2
          · cases h1
        obtain ⟨y0, hy0⟩ : ∃ y, ys[0]? = some y := ⟨ys[0]'(by omega), List.getElem?_eq_getElem (by omega)⟩
        have hlen0 : (f y0).length = s := by
          have h1 := (hy 0 y0 hy0).1
          unfold World.cells? at h1
          split at h1
          · simpa using mapM_some_length h1
          · cases h1
        obtain ⟨u0, hu0⟩ : ∃ u, (f y0)[0]? = some u := ⟨(f y0)[0]'(by omega), List.getElem?_eq_getElem (by omega)⟩
        have hc0 := hcell 0 y0 hy0 0 u0 hu0
        obtain ⟨b, off, spot⟩ := a
        have hspot : spot = none := by simpa [Addr.add] using World.cell?_spot hc0
        subst hspot
        simp only [add_none, Nat.add_assoc, cell_rd1] at hcell hc0
        obtain ⟨c, E', fz, hbk, _⟩ := rd1_some hc0
        refine ⟨b, off, c, E', fz, rfl, hbk, fun i x hx j u hj => ?_⟩
        rw [List.getElem?_map] at hx
        obtain ⟨y, hiy, rfl⟩ := Option.map_eq_some_iff.1 hx
        have := hcell i y hiy j u hj
        rw [hbk] at this
        rw [Nat.add_assoc]
        exact this
    · obtain ⟨i, hi⟩ := List.mem_iff_getElem?.1 hm
      exact (hy i y hi).2
theorem open_rows {α : Type} {r : Reach} {b0 : Nat} {W : World} {base : Nat} {spare : Nat → Bool} {held : Bool} {t E s : Nat} {v : Value} {d : DataW H} {ps : List MemPlace} (ht : P.underlying t = some (.slice E)) (hs : P.cellsOf E = s) (hs0 : 0 < s) {f : α → List Value} {good : α → Prop}
    (dec : ∀ n cs x, DataW.trod enc P W base spare held n E cs = some x → ∃ y, cs = f y ∧ good y) (hval : Value.okWide P W r b0 t v) (hd : DataW.Trod enc P W base spare held t v d ps) :
    ∃ (ys : List α) (a : Option Addr) (cap : Nat), v = .slice a ys.length cap ∧ Inp W s a (ys.map f) ∧ (∀ y ∈ ys, good y) ∧ ys.length ≤ cap ∧ cap ≤ maxLen := by
  obtain ⟨a, len, cap, rfl⟩ := okWide_slice ht hval
  obtain ⟨fuel, hf⟩ := hd
  obtain ⟨ys, a', cap', h1, h2⟩ := trod_rows ht hs hs0 dec hf
  have h3 : [Value.slice a len cap] = [.slice a' ys.length cap'] := h1
  cases h3
  exact ⟨ys, _, _, rfl, h2⟩
/-- A cell that is a number. -/
theorem dec_int {W : World} {base : Nat} {spare : Nat → Bool} {held : Bool} {E : Nat} {k : IntKind} (hE : P.underlying E = some (.int k)) : ∀ n cs x, DataW.trod enc P W base spare held n E cs = some x → ∃ y : Int, cs = [.int k y] ∧ (Lit.int k y).wf = true := by
  intro n cs x h
  obtain ⟨y, h1, _, h2⟩ := DataW.trod_int hE h
  exact ⟨y, h1, h2⟩
/-- How long a slice that was handed in may be, by what it weighs. -/
theorem sl_sized {w : World} {base : Nat} {spare : Nat → Bool} {held : Bool} {t E n c : Nat} {a : Option Addr} {d : DataW H} {ps : List MemPlace} {ts : List TypeId} {ds : List (DataW H)} (ht : P.underlying t = some (.slice E)) (hb : 0 < P.bytesOf E)
    (hsz : (DataW.weightsEach P ts ds).all (· ≤ reachBytes) = true) (j : Nat) (hj : ts[j]? = some t) (hdj : ds[j]? = some d) (hd : DataW.Trod enc P w base spare held t (.slice a n c) d ps) : n ≤ 140737488351232 := by
  obtain ⟨fuel, hf⟩ := hd
  rcases DataW.trod_slice ht hf with ⟨h0, _⟩ | ⟨a', len, cap, elems, rest, m, _, h0, h1, _, _, _, hl, _⟩
  · have : [Value.slice a n c] = [.slice none 0 0] := h0
    cases this; exact Nat.zero_le _
  · have : [Value.slice a n c] = [.slice (some a') len cap] := h0
    cases this
    cases h1
    have := sized_slice hsz hj hdj ht
    rw [List.length_map, List.length_map, hl] at this
    have h2 : n * 1 ≤ (n + rest.length) * P.bytesOf E := Nat.mul_le_mul (Nat.le_add_right _ _) hb
    have h3 : reachBytes = 140737488351232 := by decide
    omega
end
end Go.Bx
