/- Strings: of bytes in memory, compared, indexed. No program is in sight. -/
import Derived.Test.YtghcmogbmaedfaaBxSl
import Derived.Laws.BytesString
import Derived.Laws.Strings
namespace Go.Bx
open Go
set_option linter.unusedSimpArgs false
set_option linter.unusedVariables false

/-- The string of some bytes. -/
def ba (bs : List Nat) : ByteArray := ⟨(bs.map UInt8.ofNat).toArray⟩
def byteRow (x : Nat) : List Value := [.int .u8 x]
section
variable {P : Program} {w : World} {t s E : Nat} {sz by_ s2 b2 s3 b3 : Nat} {z z2 z3 : Value} {x y : Operand} {xs ys : ByteArray} {a : Option Addr} {c : Nat} {bs : List Nat} {i : Nat} {k : IntKind}
theorem binR_eqlS : binR P .eql t x y (.string xs) (.string ys) w = .ok (.bool (xs.toList == ys.toList)) w := by
  simp only [binR, eqGuard, Sem.run_bind]
  simp [binOp, Op.stringOp, pure, Sem.run, Result.andThen]
theorem binR_neqS : binR P .neq t x y (.string xs) (.string ys) w = .ok (.bool (!(xs.toList == ys.toList))) w := by
  simp only [binR, eqGuard, Sem.run_bind]
  simp [binOp, Op.stringOp, pure, Sem.run, Result.andThen]
theorem foldl_ba : ∀ (bs : List Nat) (r : ByteArray), ((bs.map fun n : Nat => (n : Int)).foldl (fun r n => r.push (UInt8.ofNat n.toNat)) r) = ⟨r.data ++ (bs.map UInt8.ofNat).toArray⟩
  | [], r => by simp
  | b :: bs, r => by
    rw [List.map_cons, List.foldl_cons, foldl_ba bs]
    simp [ByteArray.push]
theorem flat_bytes : ∀ bs : List Nat, (bs.map byteRow).flatten = (bs.map fun n : Nat => (n : Int)).map (Value.int .u8)
  | [] => rfl
  | b :: bs => by rw [List.map_cons, List.flatten_cons, flat_bytes bs]; rfl
theorem cvR_bytes (h1 : TI P t (.slice E) sz by_ z) (h2 : TI P s .string s2 b2 z2) (h3 : TI P E (.int .u8) s3 b3 z3) (hI : Inp w 1 a (bs.map byteRow)) : cvR P t s (.slice a bs.length c) w = .ok (.string (ba bs)) w := by
  rw [cvR, run_convert_bytes_string w t s E a _ _ h1.und h3.und h2.und]
  cases a with
  | none =>
    have : bs = [] := by
      rcases hI with h | ⟨b, o, cs, E, fz, h, _⟩
      · exact List.map_eq_nil_iff.1 h
      · cases h
    subst this; rfl
  | some a =>
    have hc : (loadCells a bs.length).run P w = .ok ((bs.map fun n : Nat => (n : Int)).map (Value.int .u8)).toArray w := by
      have := run_loadCells_list (P := P) (w := w) a ((bs.map fun n : Nat => (n : Int)).map (Value.int .u8)) (fun j v hj => by
        have hfl := flat_bytes bs
        rw [← hfl] at hj
        obtain ⟨b, o, cs, E', fz, ha, hb, hcs⟩ := hI.cells (fun r hr => by obtain ⟨x, _, rfl⟩ := List.mem_map.1 hr; rfl) (fun h => by rw [h] at hj; cases hj)
        cases ha
        rw [add_none, cell_rd1, hb]
        exact hcs j v hj)
      rwa [List.length_map, List.length_map] at this
    rw [run_bytesToString w a _ _ (bs.map fun n : Nat => (n : Int)) hc, foldl_ba]
    simp [ba, ByteArray.empty, ByteArray.emptyWithCapacity]
    rfl
theorem iR_string (h : TI P t .string sz by_ z) {b : UInt8} (hb : xs[i]? = some b) : iR P t (.string xs) (.int k i) w = .ok (.int .u8 b.toNat) w := by
  simp only [iR, Instr.index, Sem.run_bind, h.underlying, Result.andThen_ok, asIntOf, pure, Sem.run]
  simp [hb, pure, Sem.run]
end
theorem ba_list (bs : List Nat) : (ba bs).toList = bs.map UInt8.ofNat := by
  rw [ByteArray.toList_eq]; rfl
theorem map_inj8 : ∀ {bs cs : List Nat}, (∀ x ∈ bs, x < 256) → (∀ x ∈ cs, x < 256) → bs.map UInt8.ofNat = cs.map UInt8.ofNat → bs = cs
  | [], [], _, _, _ => rfl
  | [], _ :: _, _, _, h => by cases h
  | _ :: _, [], _, _, h => by cases h
  | b :: bs, c :: cs, hb, hc, h => by
    injection h with h1 h2
    have e := congrArg UInt8.toNat h1
    simp only [UInt8.toNat_ofNat'] at e
    have := hb b (by simp)
    have := hc c (by simp)
    rw [map_inj8 (fun x hx => hb x (by simp [hx])) (fun x hx => hc x (by simp [hx])) h2]
    congr 1
    omega
theorem ba_eq {bs cs : List Nat} (hb : ∀ x ∈ bs, x < 256) (hc : ∀ x ∈ cs, x < 256) : ((ba bs).toList == (ba cs).toList) = decide (bs = cs) := by
  rw [ba_list, ba_list, Bool.eq_iff_iff]
  simp only [beq_iff_eq, decide_eq_true_eq]
  exact ⟨map_inj8 hb hc, fun h => by rw [h]⟩
end Go.Bx
