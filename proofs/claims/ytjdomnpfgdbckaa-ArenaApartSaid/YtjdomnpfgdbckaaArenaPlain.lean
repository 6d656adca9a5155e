/- Layer 4: one contract for each method; the plain facts. -/
import Derived.Test.YtjdomnpfgdbckaaArenaRef
namespace Go.Proofs.Ytjdomnpfgdbckaa
open Go Go.Bx
set_option linter.unusedSimpArgs false
set_option linter.unusedVariables false

def takeI (most : Int) (T : List Bool) (Fr : List Int) : Int × Int × List Bool × List Int :=
  match Fr.getLast? with
  | some n => (n, 0, T.set n.toNat true, Fr.dropLast)
  | none => if (T.length : Int) = most then (0, 2, T, Fr) else (T.length, 0, T ++ [true], Fr)
def takeM (most : Int) (Tk Bk : List Int) (next : Int) : Int × Int × List Int × List Int × Int :=
  if (Tk.length : Int) = most then (0, 2, Tk, Bk, next) else
  match Bk.getLast? with
  | some n => (n, 0, Tk ++ [n], Bk.filter (· != n), next)
  | none => (next, 0, Tk ++ [next], Bk, next + 1)
def giveI (T : List Bool) (Fr : List Int) (n : Int) : Int × List Bool × List Int := if hasL T n then (0, T.set n.toNat false, Fr ++ [n]) else (1, T, Fr)
def giveM (Tk Bk : List Int) (n : Int) : Int × List Int × List Int := if Tk.contains n then (0, Tk.filter (· != n), Bk ++ [n]) else (1, Tk, Bk)

theorem last_cases (l : List Int) : l = [] ∨ ∃ R n, l = R ++ [n] := by
  rcases List.eq_nil_or_concat l with h | ⟨R, n, h⟩
  · exact .inl h
  · exact .inr ⟨R, n, by rw [h, List.concat_eq_append]⟩

theorem ArI.grow {F : Nat → Prop} {w0 w w' : World} {p : Nat} {most : Int} {T : List Bool} {Fr : List Int} (h : ArI F w p most T Fr) (hE : Ext w w') : ArI (Grow F w w') w' p most T Fr := by
  have hl := h.lt
  obtain ⟨ta, tc, fa, fc, hp, hT, hF, fp, ft, ff, hlt⟩ := h.ext hE
  exact ⟨ta, tc, fa, fc, hp, hT, hF, .inl fp, fun g hg => .inl (ft g hg), fun g hg => .inl (ff g hg), fun k hk => by
    rcases hk with hk | hk
    · exact hlt k hk
    · exact hk.2⟩
theorem ArM.grow {F : Nat → Prop} {w0 w w' : World} {p : Nat} {most next : Int} {Tk Bk : List Int} (h : ArM F w p most Tk Bk next) (hE : Ext w w') : ArM (Grow F w w') w' p most Tk Bk next := by
  obtain ⟨ta, tc, fa, fc, hp, hT, hF, hne, fp, ft, ff, hlt⟩ := h.ext hE
  exact ⟨ta, tc, fa, fc, hp, hT, hF, hne, .inl fp, fun g hg => .inl (ft g hg), fun g hg => .inl (ff g hg), fun k hk => by
    rcases hk with hk | hk
    · exact hlt k hk
    · exact hk.2⟩

theorem arTake_calls {F : Nat → Prop} {w : World} {p : Nat} {most : Int} {T : List Bool} {Fr : List Int} (h : ArI F w p most T Fr) (hb : T.length ≤ 1099511627775) (hb2 : Fr.length ≤ 1099511627775) (hr : ∀ x ∈ Fr, 0 ≤ x ∧ x < T.length) :
    CallsR Try.prog 46 #[.pointer (some ⟨p, 0, none⟩)] w fun r w' => r = .tuple #[.int .i64 (takeI most T Fr).1, errV (takeI most T Fr).2.1] ∧ ArI (Grow F w w') w' p most (takeI most T Fr).2.2.1 (takeI most T Fr).2.2.2 ∧ Chg F w w' := by
  rcases last_cases Fr with rfl | ⟨R, n, rfl⟩
  · by_cases hm : (T.length : Int) = most
    · have e : takeI most T [] = (0, 2, T, []) := by simp [takeI, hm]
      rw [e]
      refine (arTake_full h hm).mono ?_
      rintro r w' ⟨hr, hE⟩
      exact ⟨hr, h.grow hE (w0 := w), hE.chg F⟩
    · have e : takeI most T [] = ((T.length : Int), 0, T ++ [true], []) := by simp [takeI, hm]
      rw [e]
      exact arTake_new h hm hb
  · have e : takeI most T (R ++ [n]) = (n, 0, T.set n.toNat true, R) := by simp [takeI]
    rw [e]
    have hn := hr n (by simp)
    simp only [List.length_append, List.length_cons, List.length_nil] at hb2
    refine (arTake_back h (by omega) hn.1 hn.2).mono ?_
    rintro r w' ⟨hr, hA, hC⟩
    exact ⟨hr, by
      obtain ⟨ta, tc, fa, fc, hp, hT, hF, fp, ft, ff, hlt⟩ := hA
      exact ⟨ta, tc, fa, fc, hp, hT, hF, .inl fp, fun g hg => .inl (ft g hg), fun g hg => .inl (ff g hg), fun k hk => by
        rcases hk with hk | hk
        · exact hlt k hk
        · exact hk.2⟩, hC⟩

theorem arGive_calls {F : Nat → Prop} {w : World} {p : Nat} {most : Int} {T : List Bool} {Fr : List Int} (h : ArI F w p most T Fr) (n : Int) (hb : Fr.length ≤ 1099511627775) :
    CallsR Try.prog 48 #[.pointer (some ⟨p, 0, none⟩), .int .i64 n] w fun r w' => r = errV (giveI T Fr n).1 ∧ ArI (Grow F w w') w' p most (giveI T Fr n).2.1 (giveI T Fr n).2.2 ∧ Chg F w w' := by
  cases hn : hasL T n
  · have e : giveI T Fr n = (1, T, Fr) := by simp [giveI, hn]
    rw [e]
    refine (arGive_no h n hn).mono ?_
    rintro r w' ⟨hr, hE⟩
    exact ⟨hr, h.grow hE (w0 := w), hE.chg F⟩
  · have e : giveI T Fr n = (0, T.set n.toNat false, Fr ++ [n]) := by simp [giveI, hn]
    rw [e]
    exact arGive_yes h n hn hb

theorem amTake_calls {F : Nat → Prop} {w : World} {p : Nat} {most next : Int} {Tk Bk : List Int} (h : ArM F w p most Tk Bk next) (hb : Tk.length ≤ 1099511620000) (hb2 : Bk.length ≤ 1099511620000) (hn0 : 0 ≤ next) (hn1 : next ≤ 1099511620000) :
    CallsR Try.prog 47 #[.pointer (some ⟨p, 0, none⟩)] w fun r w' => r = .tuple #[.int .i64 (takeM most Tk Bk next).1, .int .i64 (takeM most Tk Bk next).2.1] ∧ ArM (Grow F w w') w' p most (takeM most Tk Bk next).2.2.1 (takeM most Tk Bk next).2.2.2.1 (takeM most Tk Bk next).2.2.2.2 ∧ Chg F w w' := by
  by_cases hm : (Tk.length : Int) = most
  · have e : takeM most Tk Bk next = (0, 2, Tk, Bk, next) := by simp [takeM, hm]
    rw [e]
    refine (amTake_full h hm).mono ?_
    rintro r w' ⟨hr, hE⟩
    exact ⟨hr, h.grow hE (w0 := w), hE.chg F⟩
  · rcases last_cases Bk with rfl | ⟨R, n, rfl⟩
    · have e : takeM most Tk [] next = (next, 0, Tk ++ [next], [], next + 1) := by simp [takeM, hm]
      rw [e]
      exact amTake_new h hm hb hn0 hn1
    · have e : takeM most Tk (R ++ [n]) next = (n, 0, Tk ++ [n], (R ++ [n]).filter (· != n), next) := by simp [takeM, hm]
      rw [e]
      simp only [List.length_append, List.length_cons, List.length_nil] at hb2
      exact amTake_back h hm hb (by omega)

theorem amGive_calls {F : Nat → Prop} {w : World} {p : Nat} {most next : Int} {Tk Bk : List Int} (h : ArM F w p most Tk Bk next) (hb : Tk.length ≤ 1099511620000) (hb2 : Bk.length ≤ 1099511620000) (n : Int) :
    CallsR Try.prog 49 #[.pointer (some ⟨p, 0, none⟩), .int .i64 n] w fun r w' => r = .int .i64 (giveM Tk Bk n).1 ∧ ArM (Grow F w w') w' p most (giveM Tk Bk n).2.1 (giveM Tk Bk n).2.2 next ∧ Chg F w w' := by
  cases hn : Tk.contains n
  · have e : giveM Tk Bk n = (1, Tk, Bk) := by simp only [giveM, hn]; rfl
    rw [e]
    refine (amGive_no h (by omega) n hn).mono ?_
    rintro r w' ⟨hr, hE⟩
    exact ⟨hr, h.grow hE (w0 := w), hE.chg F⟩
  · have e : giveM Tk Bk n = (0, Tk.filter (· != n), Bk ++ [n]) := by simp only [giveM, hn]; rfl
    rw [e]
    exact amGive_yes h hb hb2 n hn

/-! ### What both hold, plain -/
structure ArInv (most : Int) (T : List Bool) (Tk Bk : List Int) : Prop where
  range : ∀ x ∈ Bk, 0 ≤ x ∧ x < T.length
  nodup : Bk.Nodup
  nodupT : Tk.Nodup
  has : ∀ n, Tk.contains n = hasL T n
  free : ∀ x ∈ Bk, hasL T x = false
  len : T.length = Tk.length + Bk.length
  most : (T.length : Int) ≤ most

theorem ArInv.start {most : Int} (h : 0 ≤ most) : ArInv most [] [] [] :=
  ⟨fun x h => (by cases h), List.nodup_nil, List.nodup_nil, fun n => by simp [hasL], fun x h => (by cases h), rfl, h⟩

theorem hasL_set {T : List Bool} {n m : Int} {b : Bool} (hn0 : 0 ≤ n) (hn1 : n < T.length) : hasL (T.set n.toNat b) m = if m = n then b else hasL T m := by
  unfold hasL
  by_cases hm : m = n
  · subst hm
    rw [if_pos rfl, List.getD_eq_getElem?_getD, List.getElem?_set_self (by omega)]
    simp [hn0]
  · rw [if_neg hm]
    by_cases h0 : 0 ≤ m
    · rw [List.getD_eq_getElem?_getD, List.getElem?_set_ne (by omega), ← List.getD_eq_getElem?_getD]
    · simp [h0]
theorem hasL_push {T : List Bool} {m : Int} : hasL (T ++ [true]) m = (decide (m = T.length) || hasL T m) := by
  unfold hasL
  by_cases h0 : 0 ≤ m
  · by_cases hm : m = T.length
    · subst hm; simp
    · by_cases hlt : m.toNat < T.length
      · simp [List.getD_eq_getElem?_getD, List.getElem?_append_left hlt, hm]
      · have h1 : (T ++ [true])[m.toNat]? = none := List.getElem?_eq_none (by simp; omega)
        have h2 : T[m.toNat]? = none := List.getElem?_eq_none (by omega)
        simp [List.getD_eq_getElem?_getD, h1, h2, hm]
  · have : m ≠ T.length := by omega
    simp [h0, this]
theorem hasL_lt {T : List Bool} {m : Int} (h : hasL T m = true) : 0 ≤ m ∧ m < T.length := ⟨(hasL_iff h).1, (hasL_iff h).2.1⟩

theorem ArInv.take {most : Int} {T : List Bool} {Tk Bk : List Int} (h : ArInv most T Tk Bk) :
    (takeI most T Bk).1 = (takeM most Tk Bk T.length).1 ∧ (takeI most T Bk).2.1 = (takeM most Tk Bk T.length).2.1 ∧ (takeI most T Bk).2.2.2 = (takeM most Tk Bk T.length).2.2.2.1 ∧
    (takeM most Tk Bk T.length).2.2.2.2 = (takeI most T Bk).2.2.1.length ∧ (takeI most T Bk).2.2.1.length ≤ T.length + 1 ∧ 0 ≤ (takeI most T Bk).2.1 ∧ (takeI most T Bk).2.1 ≤ 8 ∧
    ArInv most (takeI most T Bk).2.2.1 (takeM most Tk Bk T.length).2.2.1 (takeM most Tk Bk T.length).2.2.2.1 := by
  have hlen := h.len
  have hmost := h.most
  rcases last_cases Bk with rfl | ⟨R, n, rfl⟩
  · by_cases hm : (T.length : Int) = most
    · have hm2 : (Tk.length : Int) = most := by simp at hlen; omega
      have e1 : takeI most T [] = (0, 2, T, []) := by simp [takeI, hm]
      have e2 : takeM most Tk [] T.length = (0, 2, Tk, [], (T.length : Int)) := by simp [takeM, hm2]
      rw [e1, e2]
      exact ⟨rfl, rfl, rfl, rfl, by simp, (show (0:Int) ≤ 2 by decide), (show (2:Int) ≤ 8 by decide), h⟩
    · have hm2 : ¬ (Tk.length : Int) = most := by simp at hlen; omega
      have e1 : takeI most T [] = ((T.length : Int), 0, T ++ [true], []) := by simp [takeI, hm]
      have e2 : takeM most Tk [] T.length = ((T.length : Int), 0, Tk ++ [(T.length : Int)], [], (T.length : Int) + 1) := by simp [takeM, hm2]
      rw [e1, e2]
      refine ⟨rfl, rfl, rfl, by simp, by simp, (show (0:Int) ≤ 0 by decide), (show (0:Int) ≤ 8 by decide), ⟨fun x hx => (by cases hx), List.nodup_nil, ?_, fun m => ?_, fun x hx => (by cases hx), ?_, ?_⟩⟩
      · rw [List.nodup_append]
        refine ⟨h.nodupT, by simp, fun a ha b hb => ?_⟩
        rw [List.mem_singleton] at hb
        subst hb
        intro e
        subst e
        have := hasL_lt ((h.has _).symm.trans (List.contains_iff_mem.2 ha))
        omega
      · have h1 := h.has m
        rw [hasL_push, ← h1, List.contains_eq_mem, List.contains_eq_mem, Bool.eq_iff_iff]
        simp [or_comm]
      · simp at hlen ⊢; omega
      · simp; omega
  · simp only [List.length_append, List.length_cons, List.length_nil] at hlen
    have hm2 : ¬ (Tk.length : Int) = most := by omega
    have hnd := h.nodup
    rw [List.nodup_append] at hnd
    have hnR : n ∉ R := fun hn => hnd.2.2 n hn n (by simp) rfl
    have hf : (R ++ [n]).filter (· != n) = R := by
      rw [List.filter_append]
      have : R.filter (· != n) = R := List.filter_eq_self.2 fun a ha => by
        have : a ≠ n := fun e => hnR (e ▸ ha)
        simpa using this
      rw [this]; simp
    have e1 : takeI most T (R ++ [n]) = (n, 0, T.set n.toNat true, R) := by simp [takeI]
    have e2 : takeM most Tk (R ++ [n]) T.length = (n, 0, Tk ++ [n], R, (T.length : Int)) := by simp only [takeM, if_neg hm2, hf, List.getLast?_append, List.getLast?_singleton, Option.or_some, Option.some_or]
    rw [e1, e2]
    have hn := h.range n (by simp)
    have hfree := h.free n (by simp)
    refine ⟨rfl, rfl, rfl, by simp, by simp, (show (0:Int) ≤ 0 by decide), (show (0:Int) ≤ 8 by decide), ⟨fun x hx => ?_, hnd.1, ?_, fun m => ?_, fun x hx => ?_, ?_, ?_⟩⟩
    · have := h.range x (by simp [hx])
      simpa using this
    · rw [List.nodup_append]
      refine ⟨h.nodupT, by simp, fun a ha b hb => ?_⟩
      rw [List.mem_singleton] at hb
      subst hb
      intro e
      subst e
      have := (h.has _).symm.trans (List.contains_iff_mem.2 ha)
      rw [hfree] at this
      cases this
    · rw [hasL_set hn.1 hn.2, ← h.has m]
      by_cases hmn : m = n
      · subst hmn; simp
      · simp [hmn]
    · have hxn : x ≠ n := fun e => hnR (by rw [← e]; exact hx)
      rw [hasL_set hn.1 hn.2, if_neg hxn]
      exact h.free x (by simp [hx])
    · simp; omega
    · simpa using hmost

theorem ArInv.give {most : Int} {T : List Bool} {Tk Bk : List Int} (h : ArInv most T Tk Bk) (n : Int) :
    (giveI T Bk n).1 = (giveM Tk Bk n).1 ∧ (giveI T Bk n).2.2 = (giveM Tk Bk n).2.2 ∧ (giveI T Bk n).2.1.length = T.length ∧ 0 ≤ (giveI T Bk n).1 ∧ (giveI T Bk n).1 ≤ 8 ∧
    ArInv most (giveI T Bk n).2.1 (giveM Tk Bk n).2.1 (giveM Tk Bk n).2.2 := by
  have h1 := h.has n
  cases hn : hasL T n
  · have e1 : giveI T Bk n = (1, T, Bk) := by simp [giveI, hn]
    have e2 : giveM Tk Bk n = (1, Tk, Bk) := by
      rw [hn] at h1
      simp only [giveM, h1]; rfl
    rw [e1, e2]
    exact ⟨rfl, rfl, rfl, (show (0:Int) ≤ 1 by decide), (show (1:Int) ≤ 8 by decide), h⟩
  · have e1 : giveI T Bk n = (0, T.set n.toNat false, Bk ++ [n]) := by simp [giveI, hn]
    have e2 : giveM Tk Bk n = (0, Tk.filter (· != n), Bk ++ [n]) := by
      rw [hn] at h1
      simp only [giveM, h1]; rfl
    rw [e1, e2]
    have hl := hasL_lt hn
    have hmem : n ∈ Tk := List.contains_iff_mem.1 (h1.trans hn)
    have hnB : n ∉ Bk := fun hb => by have := h.free n hb; rw [hn] at this; cases this
    refine ⟨rfl, rfl, by simp, (show (0:Int) ≤ 0 by decide), (show (0:Int) ≤ 8 by decide), ⟨fun x hx => ?_, ?_, h.nodupT.filter _, fun m => ?_, fun x hx => ?_, ?_, ?_⟩⟩
    · rcases List.mem_append.1 hx with hx | hx
      · have := h.range x hx; simpa using this
      · rw [List.mem_singleton] at hx; subst hx; simpa using hl
    · rw [List.nodup_append]
      refine ⟨h.nodup, by simp, fun a ha b hb => ?_⟩
      rw [List.mem_singleton] at hb
      subst hb
      intro e; subst e; exact hnB ha
    · rw [hasL_set hl.1 hl.2, ← h.has m]
      by_cases hmn : m = n
      · subst hmn; simp
      · rw [if_neg hmn, List.contains_eq_mem, List.contains_eq_mem, Bool.eq_iff_iff]
        simp [hmn]
    · rw [hasL_set hl.1 hl.2]
      rcases List.mem_append.1 hx with hx | hx
      · have hxn : x ≠ n := fun e => hnB (by rw [← e]; exact hx)
        rw [if_neg hxn]; exact h.free x hx
      · rw [List.mem_singleton] at hx; rw [if_pos hx]
    · have : (Tk.filter (· != n)).length + 1 = Tk.length := by
        have h2 : Tk.filter (· != n) = Tk.erase n := (h.nodupT.erase_eq_filter n).symm
        rw [h2, List.length_erase_of_mem hmem]
        have : 0 < Tk.length := List.length_pos_of_mem hmem
        omega
      have := h.len
      simp only [List.length_set, List.length_append, List.length_cons, List.length_nil]
      omega
    · simpa using h.most
end Go.Proofs.Ytjdomnpfgdbckaa
