/- Functions of eight variables, and what layer 1 does with them, by their rows. No program is in sight. -/
import Derived.Test.YtghcmogbmaedfaaFv
import Derived.Test.YtghcmogbmaedfaaBw
namespace Go.Bx
open Go
set_option linter.unusedSimpArgs false
set_option linter.unusedVariables false
set_option maxRecDepth 100000

def notF (f : Fun8) : Fun8 := ~~~f
def andF (f g : Fun8) : Fun8 := f &&& g
def orF (f g : Fun8) : Fun8 := f ||| g
def xorF (f g : Fun8) : Fun8 := f ^^^ g
def iteF (f g h : Fun8) : Fun8 := f &&& g ||| ~~~f &&& h
def constF (b : Bool) : Fun8 := if b then ~~~0#256 else 0#256
/-- The rows of a variable, a word at a time. -/
def lowW (v : Nat) : BitVec 64 := BitVec.ofNat 64 ([0xaaaaaaaaaaaaaaaa, 0xcccccccccccccccc, 0xf0f0f0f0f0f0f0f0, 0xff00ff00ff00ff00, 0xffff0000ffff0000, 0xffffffff00000000].getD v 0)
def varW (v : Int) (k : Nat) : BitVec 64 := if 0 ≤ v ∧ v < 6 then lowW v.toNat else if v = 6 ∨ v = 7 then -(BitVec.ofNat 64 k >>> (v - 6).toNat &&& 1#64) else 0#64
def varF (v : Int) : Fun8 := join (varW v)
def atF (f : Fun8) (x : Int) : Bool := decide (0 ≤ x) && (decide (x < 256) && f.getLsbD x.toNat)
/-- One row more. -/
def putF (f : Fun8) (x : Nat) (b : Bool) : Fun8 := if b then f ||| BitVec.twoPow 256 x else f
/-- The function of the rows at which p holds. -/
def ofRows (p : Nat → Bool) : Fun8 := tabOf p 256

section
variable {f g h : Fun8} {x v : Nat} {b : Bool}
theorem bt_not (hx : x < 256) : (notF f).getLsbD x = !f.getLsbD x := by simp [notF, hx]
theorem bt_and : (andF f g).getLsbD x = (f.getLsbD x && g.getLsbD x) := by simp [andF]
theorem bt_or : (orF f g).getLsbD x = (f.getLsbD x || g.getLsbD x) := by simp [orF]
theorem bt_xor : (xorF f g).getLsbD x = (f.getLsbD x ^^ g.getLsbD x) := by simp [xorF]
theorem bt_ite (hx : x < 256) : (iteF f g h).getLsbD x = if f.getLsbD x then g.getLsbD x else h.getLsbD x := by
  simp only [iteF, BitVec.getLsbD_or, BitVec.getLsbD_and, BitVec.getLsbD_not, hx, decide_true, Bool.true_and]
  cases f.getLsbD x <;> simp
theorem bt_const (hx : x < 256) : (constF b).getLsbD x = b := by
  cases b
  · simp [constF]
  · rw [constF, if_pos rfl, BitVec.getLsbD_not]; simp [hx]
theorem varF_all : ∀ v : Nat, v < 8 → ∀ x : Nat, x < 256 → (varF v).getLsbD x = x.testBit v := by decide +kernel
theorem bt_var (hv : v < 8) (hx : x < 256) : (varF v).getLsbD x = x.testBit v := varF_all v hv x hx
theorem varF_out {v : Int} (h : ¬ (0 ≤ v ∧ v < 8)) : varF v = constF false := by
  have : varW v = fun _ => 0#64 := by
    funext k
    rw [varW, if_neg (by omega), if_neg (by omega)]
  rw [varF, this]; rfl
theorem bt_rows {p : Nat → Bool} (hx : x < 256) : (ofRows p).getLsbD x = p x := by rw [ofRows, tabOf_bit _ _ _ hx]; simp [hx]
theorem atF_nat (f : Fun8) (k : Nat) (hk : k < 256) : atF f (k : Int) = f.getLsbD k := by
  rw [atF, dec_t (by omega), dec_t (by omega)]; simp
theorem atF_out {x : Int} (h : ¬ (0 ≤ x ∧ x < 256)) (f : Fun8) : atF f x = false := by
  rw [atF]
  by_cases h0 : 0 ≤ x
  · rw [dec_f (p := x < 256) (fun h1 => h ⟨h0, h1⟩)]; simp
  · rw [dec_f h0]; simp
theorem bt_big (hx : ¬ x < 256) : f.getLsbD x = false := BitVec.getLsbD_of_ge _ _ (by omega)
theorem fn_ext_at (hf : ∀ x : Int, atF f x = atF g x) : f = g := fn_ext fun i hi => by have := hf i; rwa [atF_nat _ _ hi, atF_nat _ _ hi] at this

theorem iteF_and : iteF f g f = andF f g := fn_ext fun i hi => by rw [bt_ite hi, bt_and]; cases f.getLsbD i <;> simp
theorem iteF_or : iteF f f g = orF f g := fn_ext fun i hi => by rw [bt_ite hi, bt_or]; cases f.getLsbD i <;> simp
theorem iteF_xor : iteF f (notF g) g = xorF f g := fn_ext fun i hi => by rw [bt_ite hi, bt_xor, bt_not hi]; cases f.getLsbD i <;> simp
theorem iteF_not : iteF f (constF false) (constF true) = notF f := fn_ext fun i hi => by rw [bt_ite hi, bt_not hi, bt_const hi, bt_const hi]; cases f.getLsbD i <;> simp
theorem iteF_same : iteF f g g = g := fn_ext fun i hi => by rw [bt_ite hi]; simp
theorem notF_const : notF (constF false) = constF true := fn_ext fun i hi => by rw [bt_not hi, bt_const hi, bt_const hi]; rfl
theorem notF_notF : notF (notF f) = f := fn_ext fun i hi => by rw [bt_not hi, bt_not hi]; simp
theorem rows_const : ofRows (fun _ => b) = constF b := fn_ext fun i hi => by rw [bt_rows hi, bt_const hi]
theorem rows_var (hv : v < 8) : ofRows (fun x => x.testBit v) = varF v := fn_ext fun i hi => by rw [bt_rows hi, bt_var hv hi]
theorem rows_ite : ofRows (fun x => if f.getLsbD x then g.getLsbD x else h.getLsbD x) = iteF f g h := fn_ext fun i hi => by rw [bt_rows hi, bt_ite hi]
theorem putF_tab (p : Nat → Bool) (k : Nat) : putF (tabOf p k) k (p k) = tabOf p (k + 1) := rfl
theorem putF_f {k : Nat} : putF f k false = f := by rw [putF]; exact if_neg (by decide)
theorem tab0 (p : Nat → Bool) : tabOf p 0 = constF false := rfl
theorem tab256 (p : Nat → Bool) : tabOf p 256 = ofRows p := rfl

/-! ### In words -/
theorem word_notF {k : Nat} (hk : k < 4) : ~~~word f k = word (notF f) k := (word_not f k hk).symm
theorem word_andF {k : Nat} : word f k &&& word g k = word (andF f g) k := (word_and f g k).symm
theorem word_orF {k : Nat} : word f k ||| word g k = word (orF f g) k := (word_or f g k).symm
theorem word_xorF {k : Nat} : word f k ^^^ word g k = word (xorF f g) k := (word_xor f g k).symm
theorem word_iteF {k : Nat} (hk : k < 4) : (word f k &&& word g k) ||| (~~~word f k &&& word h k) = word (iteF f g h) k := by
  rw [iteF, word_or, word_and, word_and, word_not f k hk]
theorem word_varF {v : Int} {k : Nat} (hk : k < 4) : varW v k = word (varF v) k := (word_join _ _ hk).symm
theorem cells_fv : (fv f).cells = #[vU (word f 0), vU (word f 1), vU (word f 2), vU (word f 3)] := rfl
theorem vcs_fv' : vcs (fv f) = [vU (word f 0), vU (word f 1), vU (word f 2), vU (word f 3)] := rfl
theorem fv_back : Value.agg #[vU (word f 0), vU (word f 1), vU (word f 2), vU (word f 3)] = fv f := rfl
theorem fv_of4 {a b c d : BitVec 64} (h0 : a = word f 0) (h1 : b = word f 1) (h2 : c = word f 2) (h3 : d = word f 3) : Value.agg #[vU a, vU b, vU c, vU d] = fv f := by
  subst h0; subst h1; subst h2; subst h3; rfl
theorem zero_cells {p : Nat → Bool} : (#[.int .u64 0, .int .u64 0, .int .u64 0, .int .u64 0] : Array Value) = (fv (tabOf p 0)).cells := by
  show (#[.int .u64 0, .int .u64 0, .int .u64 0, .int .u64 0] : Array Value) = w4 (word 0#256)
  rfl
theorem zero_fv : Value.agg #[.int .u64 0, .int .u64 0, .int .u64 0, .int .u64 0] = fv (constF false) := rfl
/-- A word by its number, and a word set. -/
def wd4 (f : Fun8) : Array Value := #[vU (word f 0), vU (word f 1), vU (word f 2), vU (word f 3)]
theorem wd4_get {k : Nat} (hk : k < 4) : (#[vU (word f 0), vU (word f 1), vU (word f 2), vU (word f 3)] : Array Value)[k]? = some (vU (word f k)) := by
  match k, hk with
  | 0, _ => rfl
  | 1, _ => rfl
  | 2, _ => rfl
  | 3, _ => rfl
theorem wd4_put {x : Nat} (hx : x < 256) : (#[vU (word f 0), vU (word f 1), vU (word f 2), vU (word f 3)] : Array Value).setIfInBounds (x / 64) (vU (word f (x / 64) ||| 1#64 <<< (x % 64))) = (fv (putF f x true)).cells := by
  have hp : ∀ k, k < 4 → word (putF f x true) k = if k = x / 64 then word f k ||| 1#64 <<< (x % 64) else word f k := fun k hk => by rw [putF, if_pos rfl, word_put _ _ _ hx hk]
  rw [cells_fv, hp 0 (by decide), hp 1 (by decide), hp 2 (by decide), hp 3 (by decide)]
  have h4 : x / 64 < 4 := by omega
  generalize x / 64 = k at h4 ⊢
  match k, h4 with
  | 0, _ => rfl
  | 1, _ => rfl
  | 2, _ => rfl
  | 3, _ => rfl
section
variable {n : Nat}
theorem shr6 : (n : Int).fdiv (2 ^ min 6 IntKind.i64.bits) = ((n / 64 : Nat) : Int) := by
  have : min 6 IntKind.i64.bits = 6 := by decide
  rw [this, Int.fdiv_eq_ediv_of_nonneg _ (by decide)]
  rfl
theorem and63_all : ∀ n : Nat, n < 256 → bits .and .i64 (n : Int) 63 = ((n % 64 : Nat) : Int) := by decide +kernel
theorem and63 (h : n < 256) : bits .and .i64 (n : Int) 63 = ((n % 64 : Nat) : Int) := and63_all n h
theorem quo64 : (n : Int).tdiv 64 = ((n / 64 : Nat) : Int) := by rw [Int.tdiv_eq_ediv_of_nonneg (by omega)]; rfl
theorem quo2 : (n : Int).tdiv 2 = ((n / 2 : Nat) : Int) := by rw [Int.tdiv_eq_ediv_of_nonneg (by omega)]; rfl
theorem rem64 : (n : Int).tmod 64 = ((n % 64 : Nat) : Int) := by rw [Int.tmod_eq_emod_of_nonneg (by omega)]; rfl
theorem rem2 : (n : Int).tmod 2 = ((n % 2 : Nat) : Int) := by rw [Int.tmod_eq_emod_of_nonneg (by omega)]; rfl
theorem shlU {k : Nat} (h : k ≤ 64) : Value.int .u64 (IntKind.u64.wrap (1 * 2 ^ min k IntKind.u64.bits)) = vU (1#64 <<< k) := by
  have hm : min k IntKind.u64.bits = k := by simp only [IntKind.bits]; omega
  rw [hm, vU, BitVec.toNat_shiftLeft, Nat.shiftLeft_eq, IntKind.wrap_u64]
  have : (1#64).toNat = 1 := rfl
  rw [this, Nat.one_mul, Int.one_mul]
  rfl
theorem tn_div64 : ((n : Int) / 64).toNat = n / 64 := by omega
theorem tn_mod64 : ((n : Int) % 64).toNat = n % 64 := by omega
end
end
attribute [irreducible] notF andF orF xorF iteF constF varF ofRows putF
attribute [push_cast] cells_fv vcs_fv' fv_back bU_and bU_or bU_xor uU_not bU_shr bU_shl bU_and1 bU_eq1 bU_rem2 shlU vcs_vU bit_and bit_rem tn_div64 tn_mod64
end Go.Bx
