/- Layer 5: the table and the list beside it, in plain words; the head of the laws. -/
import Derived.Test.YtjdomnpfgdbckaaUniqRef
namespace Go.Proofs.Ytjdomnpfgdbckaa
open Go Go.Bx
set_option linter.unusedSimpArgs false
set_option linter.unusedVariables false
set_option maxRecDepth 100000
set_option maxHeartbeats 4000000

theorem mem_one {T : Tb} (I : TbInv homeN T) {k : Ky} {v v' : Int} (h : MemT T k v) (h' : MemT T k v') : v = v' := by
  obtain ⟨p, hp⟩ := h
  obtain ⟨p', hp'⟩ := h'
  obtain rfl := I.nodup _ _ _ _ _ hp hp'
  rw [hp] at hp'; cases hp'; rfl
theorem isK_iff {lo hi : Int} {x : Pr} : isK lo hi x = true ↔ x = (lo, hi, x.2.2) := by
  obtain ⟨a, b, c⟩ := x
  simp [isK]
theorem getL_cases (L : List Pr) (lo hi : Int) : (∃ v, getL L lo hi = (v, true) ∧ (lo, hi, v) ∈ L) ∨ (getL L lo hi = (0, false) ∧ ∀ v, (lo, hi, v) ∉ L) := by
  unfold getL
  cases hf : L.find? (isK lo hi) with
  | some x =>
    have h1 := List.find?_some hf
    have h2 := List.mem_of_find?_eq_some hf
    exact .inl ⟨x.2.2, rfl, by rw [← isK_iff.1 h1]; exact h2⟩
  | none =>
    rw [List.find?_eq_none] at hf
    exact .inr ⟨rfl, fun v hv => hf _ hv (by simp [isK])⟩
theorem drop_same {L : List Pr} {lo hi : Int} (h : ∀ v, (lo, hi, v) ∉ L) : dropL L lo hi = L := by
  unfold dropL
  refine List.filter_eq_self.2 fun x hx => ?_
  cases hk : isK lo hi x
  · rfl
  · exact absurd (isK_iff.1 hk ▸ hx) (h x.2.2)
theorem drop_len {lo hi v : Int} : ∀ L : List Pr, (L.map fun x => (x.1, x.2.1)).Nodup → (lo, hi, v) ∈ L → (dropL L lo hi).length + 1 = L.length
  | [], _, h => by cases h
  | x :: L, hn, h => by
    simp only [List.map_cons, List.nodup_cons] at hn
    obtain ⟨hn1, hn2⟩ := hn
    cases hk : isK lo hi x
    · have hxv : (lo, hi, v) ∈ L := by
        rcases List.mem_cons.1 h with h | h
        · rw [← h] at hk; simp [isK] at hk
        · exact h
      have ih := drop_len L hn2 hxv
      have : dropL (x :: L) lo hi = x :: dropL L lo hi := by simp [dropL, hk]
      rw [this, List.length_cons, List.length_cons, ih]
    · have hx := isK_iff.1 hk
      have h2 : dropL L lo hi = L := drop_same fun v' hv' => hn1 (List.mem_map.2 ⟨_, hv', by rw [hx]⟩)
      have : dropL (x :: L) lo hi = dropL L lo hi := by simp [dropL, hk]
      rw [this, h2, List.length_cons]

/-- The table holds what the list holds. -/
structure RelU (T : Tb) (many : Int) (L : List Pr) (s : Int) : Prop where
  tab : TabI T many
  key : (L.map fun x => (x.1, x.2.1)).Nodup
  mem : ∀ (k : Ky) v, MemT T k v ↔ (k.1, k.2, v) ∈ L
  cnt : many = L.length
  len : (T.length : Int) = s
theorem occ_rep (n p : Nat) : occ (List.replicate n none) p = none := by
  unfold occ; rw [List.getElem?_replicate]; split <;> rfl
theorem RelU.start : RelU (List.replicate 8 none) 0 [] 8 :=
  ⟨⟨inv_rep (by decide), cnt_rep 8, by simp, by decide⟩, List.nodup_nil, fun k v => ⟨fun ⟨p, hp⟩ => (by rw [occ_rep] at hp; cases hp), fun h => by cases h⟩, rfl, by simp⟩
section
variable {T : Tb} {many : Int} {L : List Pr} {s : Int} (R : RelU T many L s)
include R
theorem RelU.get {lo hi : Int} {i : Nat} (hf : Finds homeN T (lo, hi) i) : gotO (occ T i) = getL L lo hi := by
  rcases finds_mem' R.tab.inv hf with ⟨h1, h2⟩ | ⟨v, h1⟩
  · rcases getL_cases L lo hi with ⟨v, _, h4⟩ | ⟨h3, _⟩
    · exact absurd ((R.mem (lo, hi) v).2 h4) (h2 v)
    · rw [h1, h3]; rfl
  · rcases getL_cases L lo hi with ⟨v', h3, h4⟩ | ⟨_, h4⟩
    · have := mem_one R.tab.inv ⟨i, h1⟩ ((R.mem (lo, hi) v').2 h4)
      rw [h1, h3, this]; rfl
    · exact absurd ((R.mem (lo, hi) v).1 ⟨i, h1⟩) (h4 v)
theorem RelU.put {lo hi n m' : Int} {T' : Tb} {r : Value} (I' : TabI T' m')
    (h : (r = .bool false ∧ m' = many ∧ T' = T ∧ ∃ v, MemT T (lo, hi) v) ∨ (r = .bool true ∧ m' = many + 1 ∧ (∀ v, ¬ MemT T (lo, hi) v) ∧ (∀ k v, MemT T' k v ↔ MemT T k v ∨ (k = (lo, hi) ∧ v = n)) ∧ T'.length = if 2 * (many + 1) > T.length then 2 * T.length else T.length)) :
    r = .bool (putL L s lo hi n).1 ∧ RelU T' m' (putL L s lo hi n).2.1 (putL L s lo hi n).2.2 := by
  rcases h with ⟨rfl, rfl, rfl, v, hv⟩ | ⟨rfl, rfl, hno, hm, hl⟩
  · have hg : (getL L lo hi).2 = true := by
      rcases getL_cases L lo hi with ⟨v', h3, _⟩ | ⟨_, h4⟩
      · rw [h3]
      · exact absurd ((R.mem (lo, hi) v).1 hv) (h4 v)
    have hP : putL L s lo hi n = (false, L, s) := by rw [putL, hg]; rfl
    rw [hP]
    exact ⟨rfl, R⟩
  · have hno2 : ∀ v, (lo, hi, v) ∉ L := fun v hv => hno v ((R.mem (lo, hi) v).2 hv)
    have hg : (getL L lo hi).2 = false := by
      rcases getL_cases L lo hi with ⟨v', _, h4⟩ | ⟨h3, _⟩
      · exact absurd h4 (hno2 v')
      · rw [h3]
    have hP : putL L s lo hi n = (true, L ++ [(lo, hi, n)], if s / 2 < (L.length : Int) + 1 then 2 * s else s) := by rw [putL, hg]; rfl
    rw [hP]
    have hc := R.cnt
    have hs := R.len
    refine ⟨rfl, I', ?_, fun k v => ?_, by rw [List.length_append]; simp only [List.length_cons, List.length_nil]; omega, ?_⟩
    · rw [List.map_append, List.nodup_append]
      refine ⟨R.key, by simp, fun a ha b hb => ?_⟩
      obtain ⟨x, hx, rfl⟩ := List.mem_map.1 ha
      obtain rfl : b = (lo, hi) := by simpa using hb
      intro he
      injection he with e1 e2
      refine hno2 x.2.2 ?_
      rw [← e1, ← e2]; exact hx
    · rw [hm, R.mem, List.mem_append]
      obtain ⟨a, b⟩ := k
      simp only [List.mem_singleton, Prod.mk.injEq, and_assoc]
    · rw [hl]
      dsimp only
      split <;> split <;> omega
theorem RelU.drop {lo hi m' : Int} {T' : Tb} {r : Value} (I' : TabI T' m') (hl : T'.length = T.length)
    (h : (r = .bool false ∧ m' = many ∧ T' = T ∧ ∀ v, ¬ MemT T (lo, hi) v) ∨ (r = .bool true ∧ m' = many - 1 ∧ (∃ v, MemT T (lo, hi) v) ∧ ∀ k v, MemT T' k v ↔ MemT T k v ∧ k ≠ (lo, hi))) :
    r = .bool (decide ((dropL L lo hi).length < L.length)) ∧ RelU T' m' (dropL L lo hi) s := by
  rcases h with ⟨rfl, rfl, rfl, hno⟩ | ⟨rfl, rfl, ⟨v, hv⟩, hm⟩
  · have hd : dropL L lo hi = L := drop_same fun v hv => hno v ((R.mem (lo, hi) v).2 hv)
    rw [hd]
    exact ⟨by simp, R⟩
  · have hv' := (R.mem (lo, hi) v).1 hv
    have hdl := drop_len (lo := lo) (hi := hi) (v := v) L R.key hv'
    have hc := R.cnt
    refine ⟨by rw [decide_eq_true (show (dropL L lo hi).length < L.length by omega)], I', ?_, fun k v' => ?_, by omega, by rw [hl]; exact R.len⟩
    · exact (List.Sublist.map _ List.filter_sublist).nodup R.key
    · rw [hm, R.mem]
      obtain ⟨a, b⟩ := k
      unfold dropL
      rw [List.mem_filter]
      simp only [ne_eq, Prod.mk.injEq, isK, Bool.not_eq_true', Bool.and_eq_false_iff, beq_eq_false_iff_ne]
      constructor
      · rintro ⟨h1, h2⟩
        refine ⟨h1, ?_⟩
        by_cases e : a = lo
        · exact .inr fun e2 => h2 ⟨e, e2⟩
        · exact .inl e
      · rintro ⟨h1, h2⟩
        refine ⟨h1, fun ⟨e1, e2⟩ => ?_⟩
        rcases h2 with h | h
        · exact h e1
        · exact h e2
end

/-! ### Both, in their blocks -/
theorem UqI.chg {w w' : World} {p g : Nat} {many : Int} {T : Tb} {F : Nat → Prop} (h : UqI w p g many T) (hC : Chg F w w') (h1 : ¬ F p) (h2 : ¬ F g) : UqI w' p g many T := ⟨at_chg h.at_ hC h1, at_chg h.sl hC h2, h.pw, h.pos, h.lim⟩
theorem UqM.chg {w w' : World} {p : Nat} {a : Option Addr} {L : List Pr} {c : Nat} {s : Int} {F : Nat → Prop} (h : UqM w p a L c s) (hC : Chg F w w') (h1 : ¬ F p) (h2 : ∀ x, blk a = some x → ¬ F x) : UqM w' p a L c s := ⟨at_chg h.at_ hC h1, h.ls.chg hC h2⟩
structure TwoU (W w : World) (p g : Nat) (many : Int) (T : Tb) (pm : Nat) (ma : Option Addr) (L : List Pr) (mc : Nat) (s : Int) : Prop where
  ui : UqI w p g many T
  um : UqM w pm ma L mc s
  bp : W.heap.size ≤ p
  bg : W.heap.size ≤ g
  bm : W.heap.size ≤ pm
  bl : ∀ x, blk ma = some x → W.heap.size ≤ x
  wd : Ext W w
theorem tag_ne {w : World} {b b' : Nat} {c c' : Array Value} {E E' : TypeId} (h : w.heap[b]? = some (.cells c E)) (h' : w.heap[b']? = some (.cells c' E')) (hE : E ≠ E') : b ≠ b' := by
  rintro rfl
  rw [h] at h'
  simp only [Option.some.injEq, Obj.cells.injEq] at h'
  exact hE h'.2.1
section
variable {W w w' : World} {p g g' : Nat} {many m' : Int} {T T' : Tb} {pm : Nat} {ma ma' : Option Addr} {L L' : List Pr} {mc mc' : Nat} {s s' : Int}
theorem TwoU.ext (h : TwoU W w p g many T pm ma L mc s) (hE : Ext w w') : TwoU W w' p g many T pm ma L mc s := ⟨h.ui.ext hE, h.um.ext hE, h.bp, h.bg, h.bm, h.bl, h.wd.trans hE⟩
theorem TwoU.turnI (h : TwoU W w p g many T pm ma L mc s) (hC : Chg (fun x => x = p ∨ x = g) w w') (hU : UqI w' p g' m' T') (hg : g' = g ∨ w.heap.size ≤ g') : TwoU W w' p g' m' T' pm ma L mc s := by
  have hb := h.wd.size
  refine ⟨hU, h.um.chg hC ?_ ?_, h.bp, ?_, h.bm, h.bl, hC.toExt h.wd fun b hb h2 => ?_⟩
  · rintro (e | e)
    · exact tag_ne h.um.at_ h.ui.at_ (by decide) e
    · exact tag_ne h.um.at_ h.ui.sl (by decide) e
  · rintro x hx (e | e)
    · exact h.um.ls.ne hx h.ui.at_ (by decide) e
    · exact h.um.ls.ne hx h.ui.sl (by decide) e
  · rcases hg with e | e
    · rw [e]; exact h.bg
    · omega
  · have := h.bp; have := h.bg; omega
theorem TwoU.turnM (h : TwoU W w p g many T pm ma L mc s) (hC : Chg (fun x => x = pm ∨ blk ma = some x) w w') (hM : UqM w' pm ma' L' mc' s') (hl : ∀ x, blk ma' = some x → blk ma = some x ∨ w.heap.size ≤ x) : TwoU W w' p g many T pm ma' L' mc' s' := by
  have hb := h.wd.size
  refine ⟨h.ui.chg hC ?_ ?_, hM, h.bp, h.bg, h.bm, fun x hx => ?_, hC.toExt h.wd fun b hb h2 => ?_⟩
  · rintro (e | e)
    · exact tag_ne h.ui.at_ h.um.at_ (by decide) e
    · exact h.um.ls.ne e h.ui.at_ (by decide) rfl
  · rintro (e | e)
    · exact tag_ne h.ui.sl h.um.at_ (by decide) e
    · exact h.um.ls.ne e h.ui.sl (by decide) rfl
  · rcases hl x hx with e | e
    · exact h.bl x e
    · omega
  · rcases h2 with e | e
    · have := h.bm; omega
    · have := h.bl b e; omega
end
end Go.Proofs.Ytjdomnpfgdbckaa
