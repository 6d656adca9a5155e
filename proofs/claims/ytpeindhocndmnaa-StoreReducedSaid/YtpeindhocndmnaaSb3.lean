/- Ty, UniqPlain, SumP: texts of this work, one behind the other. -/
import Derived.Test.YtpeindhocndmnaaSb2
import Derived.Test.YtpeindhocndmnaaProg
import Derived.KernelRfl
/- The facts of the program's types and calls that the walks use, printed by a program of this work (gen.py). -/
namespace Go.Proofs.Ytpeindhocndmnaa
open Go Go.Bx
set_option linter.unusedVariables false
set_option maxRecDepth 100000
theorem mixed : Try.prog.follows .mixedOrders = true := by kernel_rfl
section
variable {w : World} {ty b o n m cp : Nat} {i j : Int} {k k2 : IntKind} {v : Value} {e : Env} {x y : Operand} {cs : Array Value} {a : Option Addr}
theorem rG_alloc_182 : rG Try.prog (.alloc 182) ty e w = .ok (.value (.pointer (some ⟨w.heap.size, 0, none⟩))) (w.alloc (.cells (Value.agg #[Value.int IntKind.i64 0, Value.int IntKind.i64 0, Value.int IntKind.i64 0]).cells 182)) := rG_alloc (TI.mk' (sz := 3) (by_ := 24) (z := Value.agg #[Value.int IntKind.i64 0, Value.int IntKind.i64 0, Value.int IntKind.i64 0]) Try.underlying182 (by kernel_rfl))
theorem T184 : TI Try.prog 184 (TypeDesc.array 2 3) 2 16 (Value.agg #[Value.int IntKind.i64 0, Value.int IntKind.i64 0]) := TI.mk' Try.underlying184 (by kernel_rfl)
theorem rG_alloc_184 : rG Try.prog (.alloc 184) ty e w = .ok (.value (.pointer (some ⟨w.heap.size, 0, none⟩))) (w.alloc (.cells (Value.agg #[Value.int IntKind.i64 0, Value.int IntKind.i64 0]).cells 184)) := rG_alloc T184
theorem rG_alloc_189 : rG Try.prog (.alloc 189) ty e w = .ok (.value (.pointer (some ⟨w.heap.size, 0, none⟩))) (w.alloc (.cells (Value.agg #[Value.int IntKind.i64 0, Value.int IntKind.i64 0]).cells 189)) := rG_alloc (TI.mk' (sz := 2) (by_ := 16) (z := Value.agg #[Value.int IntKind.i64 0, Value.int IntKind.i64 0]) Try.underlying189 (by kernel_rfl))
theorem rG_alloc_191 : rG Try.prog (.alloc 191) ty e w = .ok (.value (.pointer (some ⟨w.heap.size, 0, none⟩))) (w.alloc (.cells (Value.agg #[Value.int IntKind.i64 0, Value.int IntKind.i64 0, Value.int IntKind.i64 0, Value.bool false]).cells 191)) := rG_alloc (TI.mk' (sz := 4) (by_ := 32) (z := Value.agg #[Value.int IntKind.i64 0, Value.int IntKind.i64 0, Value.int IntKind.i64 0, Value.bool false]) Try.underlying191 (by kernel_rfl))
theorem T206 : TI Try.prog 206 (TypeDesc.int IntKind.u64) 1 8 (Value.int IntKind.u64 0) := TI.mk' Try.underlying206 (by kernel_rfl)
theorem rG_alloc_206 : rG Try.prog (.alloc 206) ty e w = .ok (.value (.pointer (some ⟨w.heap.size, 0, none⟩))) (w.alloc (.cells (Value.int IntKind.u64 0).cells 206)) := rG_alloc T206
theorem T3 : TI Try.prog 3 (TypeDesc.int IntKind.i64) 1 8 (Value.int IntKind.i64 0) := TI.mk' Try.underlying3 (by kernel_rfl)
theorem rG_alloc_3 : rG Try.prog (.alloc 3) ty e w = .ok (.value (.pointer (some ⟨w.heap.size, 0, none⟩))) (w.alloc (.cells (Value.int IntKind.i64 0).cells 3)) := rG_alloc T3
theorem T36 : TI Try.prog 36 (TypeDesc.array 8 3) 8 64 (Value.agg #[Value.int IntKind.i64 0, Value.int IntKind.i64 0, Value.int IntKind.i64 0, Value.int IntKind.i64 0, Value.int IntKind.i64 0, Value.int IntKind.i64 0, Value.int IntKind.i64 0, Value.int IntKind.i64 0]) := TI.mk' Try.underlying36 (by kernel_rfl)
theorem rG_alloc_36 : rG Try.prog (.alloc 36) ty e w = .ok (.value (.pointer (some ⟨w.heap.size, 0, none⟩))) (w.alloc (.cells (Value.agg #[Value.int IntKind.i64 0, Value.int IntKind.i64 0, Value.int IntKind.i64 0, Value.int IntKind.i64 0, Value.int IntKind.i64 0, Value.int IntKind.i64 0, Value.int IntKind.i64 0, Value.int IntKind.i64 0]).cells 36)) := rG_alloc T36
theorem rG_alloc_39 : rG Try.prog (.alloc 39) ty e w = .ok (.value (.pointer (some ⟨w.heap.size, 0, none⟩))) (w.alloc (.cells (Value.agg #[Value.int IntKind.i64 0, Value.int IntKind.i64 0, Value.int IntKind.i64 0]).cells 39)) := rG_alloc (TI.mk' (sz := 3) (by_ := 24) (z := Value.agg #[Value.int IntKind.i64 0, Value.int IntKind.i64 0, Value.int IntKind.i64 0]) Try.underlying39 (by kernel_rfl))
theorem T54 : TI Try.prog 54 (TypeDesc.array 4 52) 4 32 (Value.agg #[Value.int IntKind.u64 0, Value.int IntKind.u64 0, Value.int IntKind.u64 0, Value.int IntKind.u64 0]) := TI.mk' Try.underlying54 (by kernel_rfl)
theorem rG_alloc_54 : rG Try.prog (.alloc 54) ty e w = .ok (.value (.pointer (some ⟨w.heap.size, 0, none⟩))) (w.alloc (.cells (Value.agg #[Value.int IntKind.u64 0, Value.int IntKind.u64 0, Value.int IntKind.u64 0, Value.int IntKind.u64 0]).cells 54)) := rG_alloc T54
theorem rG_alloc_79 : rG Try.prog (.alloc 79) ty e w = .ok (.value (.pointer (some ⟨w.heap.size, 0, none⟩))) (w.alloc (.cells (Value.agg #[Value.int IntKind.i64 0, Value.int IntKind.i64 0, Value.int IntKind.i64 0, Value.int IntKind.i64 0, Value.bool false]).cells 79)) := rG_alloc (TI.mk' (sz := 5) (by_ := 40) (z := Value.agg #[Value.int IntKind.i64 0, Value.int IntKind.i64 0, Value.int IntKind.i64 0, Value.int IntKind.i64 0, Value.bool false]) Try.underlying79 (by kernel_rfl))
theorem rG_alloc_91 : rG Try.prog (.alloc 91) ty e w = .ok (.value (.pointer (some ⟨w.heap.size, 0, none⟩))) (w.alloc (.cells (Value.agg #[Value.int IntKind.i64 0, Value.int IntKind.i64 0, Value.int IntKind.i64 0, Value.int IntKind.i64 0, Value.bool false, Value.bool false]).cells 91)) := rG_alloc (TI.mk' (sz := 6) (by_ := 40) (z := Value.agg #[Value.int IntKind.i64 0, Value.int IntKind.i64 0, Value.int IntKind.i64 0, Value.int IntKind.i64 0, Value.bool false, Value.bool false]) Try.underlying91 (by kernel_rfl))
theorem T114 : TI Try.prog 114 (TypeDesc.pointer 171) 1 8 (Value.pointer none) := TI.mk' Try.underlying114 (by kernel_rfl)
theorem ceql_pp_114 : binR Try.prog .eql 114 x y (.pointer none) (.pointer none) w = .ok (.bool true) w := eql_pp T114
theorem ceql_pa_114 {a : Addr} : binR Try.prog .eql 114 x y (.pointer (some a)) (.pointer none) w = .ok (.bool false) w := eql_pa T114
theorem T24 : TI Try.prog 24 (TypeDesc.pointer 120) 1 8 (Value.pointer none) := TI.mk' Try.underlying24 (by kernel_rfl)
theorem ceql_pp_24 : binR Try.prog .eql 24 x y (.pointer none) (.pointer none) w = .ok (.bool true) w := eql_pp T24
theorem ceql_pa_24 {a : Addr} : binR Try.prog .eql 24 x y (.pointer (some a)) (.pointer none) w = .ok (.bool false) w := eql_pa T24
theorem T34 : TI Try.prog 34 (TypeDesc.slice 3) 1 24 (Value.slice none 0 0) := TI.mk' Try.underlying34 (by kernel_rfl)
theorem ceql_ss_34 {l l2 c2 : Nat} : binR Try.prog .eql 34 x y (.slice none l n) (.slice none l2 c2) w = .ok (.bool true) w := eql_ss T34
theorem ceql_sa_34 {a : Addr} {l l2 c2 : Nat} : binR Try.prog .eql 34 x y (.slice (some a) l n) (.slice none l2 c2) w = .ok (.bool false) w := eql_sa T34
theorem T4 : TI Try.prog 4 (TypeDesc.bool) 1 1 (Value.bool false) := TI.mk' Try.underlying4 (by kernel_rfl)
theorem eqeql_4 {p q : Bool} : binR Try.prog .eql 4 x y (.bool p) (.bool q) w = .ok (.bool (p == q)) w := binR_eql_bool T4
theorem ceql_nn_47 {u : Value} : binR Try.prog .eql 47 x (.const u) .nilIface .nilIface w = .ok (.bool true) w := eql_nn (TI.mk' (sz := 1) (by_ := 16) (z := Value.nilIface) Try.underlying47 (by kernel_rfl))
theorem ceql_in_47 {u : Value} : binR Try.prog .eql 47 x y (.iface ty u) .nilIface w = .ok (.bool false) w := eql_in (TI.mk' (sz := 1) (by_ := 16) (z := Value.nilIface) Try.underlying47 (by kernel_rfl))
theorem ceql_ni_47 {u : Value} : binR Try.prog .eql 47 x y .nilIface (.iface ty u) w = .ok (.bool false) w := eql_ni (TI.mk' (sz := 1) (by_ := 16) (z := Value.nilIface) Try.underlying47 (by kernel_rfl))
theorem T127 : TI Try.prog 127 (TypeDesc.int IntKind.i64) 1 8 (Value.int IntKind.i64 0) := TI.mk' Try.underlying127 (by kernel_rfl)
theorem ceql_ii_47_127 : binR Try.prog .eql 47 x y (.iface 127 (.int .i64 i)) (.iface 127 (.int .i64 j)) w = .ok (.bool (i == j)) w := eql_ii (TI.mk' (sz := 1) (by_ := 16) (z := Value.nilIface) Try.underlying47 (by kernel_rfl)) T127 (by kernel_rfl)
theorem T55 : TI Try.prog 55 (TypeDesc.pointer 134) 1 8 (Value.pointer none) := TI.mk' Try.underlying55 (by kernel_rfl)
theorem ceql_pp_55 : binR Try.prog .eql 55 x y (.pointer none) (.pointer none) w = .ok (.bool true) w := eql_pp T55
theorem ceql_pa_55 {a : Addr} : binR Try.prog .eql 55 x y (.pointer (some a)) (.pointer none) w = .ok (.bool false) w := eql_pa T55
theorem cneq_pp_24 : binR Try.prog .neq 24 x y (.pointer none) (.pointer none) w = .ok (.bool false) w := neq_pp T24
theorem cneq_pa_24 {a : Addr} : binR Try.prog .neq 24 x y (.pointer (some a)) (.pointer none) w = .ok (.bool true) w := neq_pa T24
theorem eqneq_4 {p q : Bool} : binR Try.prog .neq 4 x y (.bool p) (.bool q) w = .ok (.bool (!(p == q))) w := binR_neq_bool T4
theorem cneq_nn_47 {u : Value} : binR Try.prog .neq 47 x (.const u) .nilIface .nilIface w = .ok (.bool false) w := neq_nn (TI.mk' (sz := 1) (by_ := 16) (z := Value.nilIface) Try.underlying47 (by kernel_rfl))
theorem cneq_in_47 {u : Value} : binR Try.prog .neq 47 x y (.iface ty u) .nilIface w = .ok (.bool true) w := neq_in (TI.mk' (sz := 1) (by_ := 16) (z := Value.nilIface) Try.underlying47 (by kernel_rfl))
theorem cneq_ni_47 {u : Value} : binR Try.prog .neq 47 x y .nilIface (.iface ty u) w = .ok (.bool true) w := neq_ni (TI.mk' (sz := 1) (by_ := 16) (z := Value.nilIface) Try.underlying47 (by kernel_rfl))
theorem cneq_ii_47_127 : binR Try.prog .neq 47 x y (.iface 127 (.int .i64 i)) (.iface 127 (.int .i64 j)) w = .ok (.bool (!(i == j))) w := neq_ii (TI.mk' (sz := 1) (by_ := 16) (z := Value.nilIface) Try.underlying47 (by kernel_rfl)) T127 (by kernel_rfl)
theorem cneq_pp_55 : binR Try.prog .neq 55 x y (.pointer none) (.pointer none) w = .ok (.bool false) w := neq_pp T55
theorem cneq_pa_55 {a : Addr} : binR Try.prog .neq 55 x y (.pointer (some a)) (.pointer none) w = .ok (.bool true) w := neq_pa T55
theorem bd120_0_1_5 (a0 : Int) (a1 : Option Addr) (a50 a51 a52 a53 a54 a55 a56 a57 : Value) : bdR Try.prog 120 #[(0, .int .i64 a0), (1, .pointer a1), (5, .agg #[a50, a51, a52, a53, a54, a55, a56, a57])] w = .ok (.agg #[.int .i64 a0, .pointer a1, Value.slice none 0 0, Value.slice none 0 0, Value.pointer none, Value.pointer none, Value.pointer none, Value.pointer none, Value.pointer none, Value.pointer none, Value.pointer none, Value.pointer none, a50, a51, a52, a53, a54, a55, a56, a57]) w := by kernel_rfl
theorem bd124_0_2 (a0 : Option Addr) (a20 a21 a22 a23 a24 a25 a26 a27 : Value) : bdR Try.prog 124 #[(0, .pointer a0), (2, .agg #[a20, a21, a22, a23, a24, a25, a26, a27])] w = .ok (.agg #[.pointer a0, Value.slice none 0 0, a20, a21, a22, a23, a24, a25, a26, a27]) w := by kernel_rfl
theorem bd134_0 (a0 : Option Nat) : bdR Try.prog 134 #[(0, .map a0)] w = .ok (.agg #[.map a0]) w := by kernel_rfl
theorem bd139_0_1 (a0 : Option Addr) (a1 : Option Nat) : bdR Try.prog 139 #[(0, .pointer a0), (1, .map a1)] w = .ok (.agg #[.pointer a0, .map a1]) w := by kernel_rfl
theorem bd152_0_1_2_3 (a0 : Option Addr) (a1 : Int) (a2 : Bool) (a3 : Option Nat) : bdR Try.prog 152 #[(0, .pointer a0), (1, .int .i64 a1), (2, .bool a2), (3, .map a3)] w = .ok (.agg #[.pointer a0, .int .i64 a1, .bool a2, .map a3]) w := by kernel_rfl
theorem bd161_0_1_2_3_5 (a0 : Option Addr) (a1 : Option Addr) (a1l a1c : Nat) (a2 : Int) (a3 : Int) (a5 : Int) : bdR Try.prog 161 #[(0, .pointer a0), (1, .slice a1 a1l a1c), (2, .int .i64 a2), (3, .int .i64 a3), (5, .int .i64 a5)] w = .ok (.agg #[.pointer a0, .slice a1 a1l a1c, .int .i64 a2, .int .i64 a3, Value.int IntKind.i64 0, .int .i64 a5]) w := by kernel_rfl
theorem bd169_0 (a0 : Int) : bdR Try.prog 169 #[(0, .int .i64 a0)] w = .ok (.agg #[.int .i64 a0, Value.slice none 0 0, Value.slice none 0 0, Value.int IntKind.i64 0]) w := by kernel_rfl
theorem bd171_0 (a0 : Int) : bdR Try.prog 171 #[(0, .int .i64 a0)] w = .ok (.agg #[.int .i64 a0, Value.slice none 0 0, Value.slice none 0 0]) w := by kernel_rfl
theorem bd174_0 (a0 : Option Addr) (a0l a0c : Nat) : bdR Try.prog 174 #[(0, .slice a0 a0l a0c)] w = .ok (.agg #[.slice a0 a0l a0c, Value.int IntKind.i64 0]) w := by kernel_rfl
theorem bd182_0_1_2 (a0 : Int) (a1 : Int) (a2 : Int) : bdR Try.prog 182 #[(0, .int .i64 a0), (1, .int .i64 a1), (2, .int .i64 a2)] w = .ok (.agg #[.int .i64 a0, .int .i64 a1, .int .i64 a2]) w := by kernel_rfl
theorem bd189_0_1 (a0 : Int) (a1 : Int) : bdR Try.prog 189 #[(0, .int .i64 a0), (1, .int .i64 a1)] w = .ok (.agg #[.int .i64 a0, .int .i64 a1]) w := by kernel_rfl
theorem bd191_  : bdR Try.prog 191 #[] w = .ok (.agg #[Value.int IntKind.i64 0, Value.int IntKind.i64 0, Value.int IntKind.i64 0, Value.bool false]) w := by kernel_rfl
theorem bd191_0_1_2 (a00 a01 : Value) (a1 : Int) (a2 : Bool) : bdR Try.prog 191 #[(0, .agg #[a00, a01]), (1, .int .i64 a1), (2, .bool a2)] w = .ok (.agg #[a00, a01, .int .i64 a1, .bool a2]) w := by kernel_rfl
theorem bd205_0_1_2_3_4_5 (a0 : Int) (a1 : Int) (a2 : Int) (a3 : Int) (a4 : Int) (a5 : Int) : bdR Try.prog 205 #[(0, .int .u64 a0), (1, .int .u64 a1), (2, .int .u64 a2), (3, .int .u64 a3), (4, .int .u64 a4), (5, .int .u64 a5)] w = .ok (.agg #[.int .u64 a0, .int .u64 a1, .int .u64 a2, .int .u64 a3, .int .u64 a4, .int .u64 a5]) w := by kernel_rfl
theorem T205 : TI Try.prog 205 (TypeDesc.array 6 52) 6 48 (Value.agg #[Value.int IntKind.u64 0, Value.int IntKind.u64 0, Value.int IntKind.u64 0, Value.int IntKind.u64 0, Value.int IntKind.u64 0, Value.int IntKind.u64 0]) := TI.mk' Try.underlying205 (by kernel_rfl)
theorem bd36_0_1_2_3_4_5_6_7 (a0 : Int) (a1 : Int) (a2 : Int) (a3 : Int) (a4 : Int) (a5 : Int) (a6 : Int) (a7 : Int) : bdR Try.prog 36 #[(0, .int .i64 a0), (1, .int .i64 a1), (2, .int .i64 a2), (3, .int .i64 a3), (4, .int .i64 a4), (5, .int .i64 a5), (6, .int .i64 a6), (7, .int .i64 a7)] w = .ok (.agg #[.int .i64 a0, .int .i64 a1, .int .i64 a2, .int .i64 a3, .int .i64 a4, .int .i64 a5, .int .i64 a6, .int .i64 a7]) w := by kernel_rfl
theorem bd39_0_1_2 (a0 : Int) (a1 : Int) (a2 : Int) : bdR Try.prog 39 #[(0, .int .i64 a0), (1, .int .i64 a1), (2, .int .i64 a2)] w = .ok (.agg #[.int .i64 a0, .int .i64 a1, .int .i64 a2]) w := by kernel_rfl
theorem bd39_  : bdR Try.prog 39 #[] w = .ok (.agg #[Value.int IntKind.i64 0, Value.int IntKind.i64 0, Value.int IntKind.i64 0]) w := by kernel_rfl
theorem bd54_  : bdR Try.prog 54 #[] w = .ok (.agg #[Value.int IntKind.u64 0, Value.int IntKind.u64 0, Value.int IntKind.u64 0, Value.int IntKind.u64 0]) w := by kernel_rfl
theorem bs116_1 (a00 a01 a02 : Value) : bsR Try.prog 116 1 #[(0, .agg #[a00, a01, a02])] w = .ok (.slice (some ⟨w.heap.size, 0, none⟩) 1 1) (w.alloc (.cells #[a00, a01, a02] 39)) := by kernel_rfl
theorem T116 : TI Try.prog 116 (TypeDesc.slice 39) 1 24 (Value.slice none 0 0) := TI.mk' Try.underlying116 (by kernel_rfl)
theorem bs34_2 (a0 : Int) (a1 : Int) : bsR Try.prog 34 2 #[(0, .int .i64 a0), (1, .int .i64 a1)] w = .ok (.slice (some ⟨w.heap.size, 0, none⟩) 2 2) (w.alloc (.cells #[.int .i64 a0, .int .i64 a1] 3)) := by kernel_rfl
theorem bs34_1 (a0 : Int) : bsR Try.prog 34 1 #[(0, .int .i64 a0)] w = .ok (.slice (some ⟨w.heap.size, 0, none⟩) 1 1) (w.alloc (.cells #[.int .i64 a0] 3)) := by kernel_rfl
theorem bs34_3 (a0 : Int) (a1 : Int) (a2 : Int) : bsR Try.prog 34 3 #[(0, .int .i64 a0), (1, .int .i64 a1), (2, .int .i64 a2)] w = .ok (.slice (some ⟨w.heap.size, 0, none⟩) 3 3) (w.alloc (.cells #[.int .i64 a0, .int .i64 a1, .int .i64 a2] 3)) := by kernel_rfl
theorem bs34_0  : bsR Try.prog 34 0 #[] w = .ok (.slice (some ⟨w.heap.size, 0, none⟩) 0 0) (w.alloc (.cells #[] 3)) := by kernel_rfl
theorem bs44_1 (a0 : Bool) : bsR Try.prog 44 1 #[(0, .bool a0)] w = .ok (.slice (some ⟨w.heap.size, 0, none⟩) 1 1) (w.alloc (.cells #[.bool a0] 4)) := by kernel_rfl
theorem T44 : TI Try.prog 44 (TypeDesc.slice 4) 1 24 (Value.slice none 0 0) := TI.mk' Try.underlying44 (by kernel_rfl)
theorem bs65_1 (a00 a01 a02 a03 : Value) : bsR Try.prog 65 1 #[(0, .agg #[a00, a01, a02, a03])] w = .ok (.slice (some ⟨w.heap.size, 0, none⟩) 1 1) (w.alloc (.cells #[a00, a01, a02, a03] 54)) := by kernel_rfl
theorem bs65_2 (a00 a01 a02 a03 : Value) (a10 a11 a12 a13 : Value) : bsR Try.prog 65 2 #[(0, .agg #[a00, a01, a02, a03]), (1, .agg #[a10, a11, a12, a13])] w = .ok (.slice (some ⟨w.heap.size, 0, none⟩) 2 2) (w.alloc (.cells #[a00, a01, a02, a03, a10, a11, a12, a13] 54)) := by kernel_rfl
theorem bs65_0  : bsR Try.prog 65 0 #[] w = .ok (.slice (some ⟨w.heap.size, 0, none⟩) 0 0) (w.alloc (.cells #[] 54)) := by kernel_rfl
theorem T65 : TI Try.prog 65 (TypeDesc.slice 54) 1 24 (Value.slice none 0 0) := TI.mk' Try.underlying65 (by kernel_rfl)
theorem ln116 : lnR Try.prog 116 (.slice a n cp) w = .ok (.int .i64 n) w := lnR_slice T116
theorem T172 : TI Try.prog 172 (TypeDesc.slice 191) 1 24 (Value.slice none 0 0) := TI.mk' Try.underlying172 (by kernel_rfl)
theorem ln172 : lnR Try.prog 172 (.slice a n cp) w = .ok (.int .i64 n) w := lnR_slice T172
theorem T22 : TI Try.prog 22 (TypeDesc.slice 31) 1 24 (Value.slice none 0 0) := TI.mk' Try.underlying22 (by kernel_rfl)
theorem ln22 : lnR Try.prog 22 (.slice a n cp) w = .ok (.int .i64 n) w := lnR_slice T22
theorem ln34 : lnR Try.prog 34 (.slice a n cp) w = .ok (.int .i64 n) w := lnR_slice T34
theorem ln44 : lnR Try.prog 44 (.slice a n cp) w = .ok (.int .i64 n) w := lnR_slice T44
theorem ln65 : lnR Try.prog 65 (.slice a n cp) w = .ok (.int .i64 n) w := lnR_slice T65
theorem T77 : TI Try.prog 77 (TypeDesc.slice 79) 1 24 (Value.slice none 0 0) := TI.mk' Try.underlying77 (by kernel_rfl)
theorem ln77 : lnR Try.prog 77 (.slice a n cp) w = .ok (.int .i64 n) w := lnR_slice T77
theorem T89 : TI Try.prog 89 (TypeDesc.slice 91) 1 24 (Value.slice none 0 0) := TI.mk' Try.underlying89 (by kernel_rfl)
theorem ln89 : lnR Try.prog 89 (.slice a n cp) w = .ok (.int .i64 n) w := lnR_slice T89
theorem call100 {args : Array Operand} {ts : Array TypeId} : rG Try.prog (.call { callee := .value (.func 100), args := args, argTypes := ts }) ty e w = .ok (.enter 100 (args.map (ev e))) w := rG_call Try.func100 (by kernel_rfl) (by kernel_rfl)
theorem call101 {args : Array Operand} {ts : Array TypeId} : rG Try.prog (.call { callee := .value (.func 101), args := args, argTypes := ts }) ty e w = .ok (.enter 101 (args.map (ev e))) w := rG_call Try.func101 (by kernel_rfl) (by kernel_rfl)
theorem call102 {args : Array Operand} {ts : Array TypeId} : rG Try.prog (.call { callee := .value (.func 102), args := args, argTypes := ts }) ty e w = .ok (.enter 102 (args.map (ev e))) w := rG_call Try.func102 (by kernel_rfl) (by kernel_rfl)
theorem call103 {args : Array Operand} {ts : Array TypeId} : rG Try.prog (.call { callee := .value (.func 103), args := args, argTypes := ts }) ty e w = .ok (.enter 103 (args.map (ev e))) w := rG_call Try.func103 (by kernel_rfl) (by kernel_rfl)
theorem call104 {args : Array Operand} {ts : Array TypeId} : rG Try.prog (.call { callee := .value (.func 104), args := args, argTypes := ts }) ty e w = .ok (.enter 104 (args.map (ev e))) w := rG_call Try.func104 (by kernel_rfl) (by kernel_rfl)
theorem call105 {args : Array Operand} {ts : Array TypeId} : rG Try.prog (.call { callee := .value (.func 105), args := args, argTypes := ts }) ty e w = .ok (.enter 105 (args.map (ev e))) w := rG_call Try.func105 (by kernel_rfl) (by kernel_rfl)
theorem call106 {args : Array Operand} {ts : Array TypeId} : rG Try.prog (.call { callee := .value (.func 106), args := args, argTypes := ts }) ty e w = .ok (.enter 106 (args.map (ev e))) w := rG_call Try.func106 (by kernel_rfl) (by kernel_rfl)
theorem call107 {args : Array Operand} {ts : Array TypeId} : rG Try.prog (.call { callee := .value (.func 107), args := args, argTypes := ts }) ty e w = .ok (.enter 107 (args.map (ev e))) w := rG_call Try.func107 (by kernel_rfl) (by kernel_rfl)
theorem call108 {args : Array Operand} {ts : Array TypeId} : rG Try.prog (.call { callee := .value (.func 108), args := args, argTypes := ts }) ty e w = .ok (.enter 108 (args.map (ev e))) w := rG_call Try.func108 (by kernel_rfl) (by kernel_rfl)
theorem call109 {args : Array Operand} {ts : Array TypeId} : rG Try.prog (.call { callee := .value (.func 109), args := args, argTypes := ts }) ty e w = .ok (.enter 109 (args.map (ev e))) w := rG_call Try.func109 (by kernel_rfl) (by kernel_rfl)
theorem call110 {args : Array Operand} {ts : Array TypeId} : rG Try.prog (.call { callee := .value (.func 110), args := args, argTypes := ts }) ty e w = .ok (.enter 110 (args.map (ev e))) w := rG_call Try.func110 (by kernel_rfl) (by kernel_rfl)
theorem call111 {args : Array Operand} {ts : Array TypeId} : rG Try.prog (.call { callee := .value (.func 111), args := args, argTypes := ts }) ty e w = .ok (.enter 111 (args.map (ev e))) w := rG_call Try.func111 (by kernel_rfl) (by kernel_rfl)
theorem call112 {args : Array Operand} {ts : Array TypeId} : rG Try.prog (.call { callee := .value (.func 112), args := args, argTypes := ts }) ty e w = .ok (.enter 112 (args.map (ev e))) w := rG_call Try.func112 (by kernel_rfl) (by kernel_rfl)
theorem call113 {args : Array Operand} {ts : Array TypeId} : rG Try.prog (.call { callee := .value (.func 113), args := args, argTypes := ts }) ty e w = .ok (.enter 113 (args.map (ev e))) w := rG_call Try.func113 (by kernel_rfl) (by kernel_rfl)
theorem call114 {args : Array Operand} {ts : Array TypeId} : rG Try.prog (.call { callee := .value (.func 114), args := args, argTypes := ts }) ty e w = .ok (.enter 114 (args.map (ev e))) w := rG_call Try.func114 (by kernel_rfl) (by kernel_rfl)
theorem call115 {args : Array Operand} {ts : Array TypeId} : rG Try.prog (.call { callee := .value (.func 115), args := args, argTypes := ts }) ty e w = .ok (.enter 115 (args.map (ev e))) w := rG_call Try.func115 (by kernel_rfl) (by kernel_rfl)
theorem call116 {args : Array Operand} {ts : Array TypeId} : rG Try.prog (.call { callee := .value (.func 116), args := args, argTypes := ts }) ty e w = .ok (.enter 116 (args.map (ev e))) w := rG_call Try.func116 (by kernel_rfl) (by kernel_rfl)
theorem call117 {args : Array Operand} {ts : Array TypeId} : rG Try.prog (.call { callee := .value (.func 117), args := args, argTypes := ts }) ty e w = .ok (.enter 117 (args.map (ev e))) w := rG_call Try.func117 (by kernel_rfl) (by kernel_rfl)
theorem call118 {args : Array Operand} {ts : Array TypeId} : rG Try.prog (.call { callee := .value (.func 118), args := args, argTypes := ts }) ty e w = .ok (.enter 118 (args.map (ev e))) w := rG_call Try.func118 (by kernel_rfl) (by kernel_rfl)
theorem call119 {args : Array Operand} {ts : Array TypeId} : rG Try.prog (.call { callee := .value (.func 119), args := args, argTypes := ts }) ty e w = .ok (.enter 119 (args.map (ev e))) w := rG_call Try.func119 (by kernel_rfl) (by kernel_rfl)
theorem call120 {args : Array Operand} {ts : Array TypeId} : rG Try.prog (.call { callee := .value (.func 120), args := args, argTypes := ts }) ty e w = .ok (.enter 120 (args.map (ev e))) w := rG_call Try.func120 (by kernel_rfl) (by kernel_rfl)
theorem call121 {args : Array Operand} {ts : Array TypeId} : rG Try.prog (.call { callee := .value (.func 121), args := args, argTypes := ts }) ty e w = .ok (.enter 121 (args.map (ev e))) w := rG_call Try.func121 (by kernel_rfl) (by kernel_rfl)
theorem call122 {args : Array Operand} {ts : Array TypeId} : rG Try.prog (.call { callee := .value (.func 122), args := args, argTypes := ts }) ty e w = .ok (.enter 122 (args.map (ev e))) w := rG_call Try.func122 (by kernel_rfl) (by kernel_rfl)
theorem call123 {args : Array Operand} {ts : Array TypeId} : rG Try.prog (.call { callee := .value (.func 123), args := args, argTypes := ts }) ty e w = .ok (.enter 123 (args.map (ev e))) w := rG_call Try.func123 (by kernel_rfl) (by kernel_rfl)
theorem call124 {args : Array Operand} {ts : Array TypeId} : rG Try.prog (.call { callee := .value (.func 124), args := args, argTypes := ts }) ty e w = .ok (.enter 124 (args.map (ev e))) w := rG_call Try.func124 (by kernel_rfl) (by kernel_rfl)
theorem call125 {args : Array Operand} {ts : Array TypeId} : rG Try.prog (.call { callee := .value (.func 125), args := args, argTypes := ts }) ty e w = .ok (.enter 125 (args.map (ev e))) w := rG_call Try.func125 (by kernel_rfl) (by kernel_rfl)
theorem call126 {args : Array Operand} {ts : Array TypeId} : rG Try.prog (.call { callee := .value (.func 126), args := args, argTypes := ts }) ty e w = .ok (.enter 126 (args.map (ev e))) w := rG_call Try.func126 (by kernel_rfl) (by kernel_rfl)
theorem call127 {args : Array Operand} {ts : Array TypeId} : rG Try.prog (.call { callee := .value (.func 127), args := args, argTypes := ts }) ty e w = .ok (.enter 127 (args.map (ev e))) w := rG_call Try.func127 (by kernel_rfl) (by kernel_rfl)
theorem call128 {args : Array Operand} {ts : Array TypeId} : rG Try.prog (.call { callee := .value (.func 128), args := args, argTypes := ts }) ty e w = .ok (.enter 128 (args.map (ev e))) w := rG_call Try.func128 (by kernel_rfl) (by kernel_rfl)
theorem call129 {args : Array Operand} {ts : Array TypeId} : rG Try.prog (.call { callee := .value (.func 129), args := args, argTypes := ts }) ty e w = .ok (.enter 129 (args.map (ev e))) w := rG_call Try.func129 (by kernel_rfl) (by kernel_rfl)
theorem call130 {args : Array Operand} {ts : Array TypeId} : rG Try.prog (.call { callee := .value (.func 130), args := args, argTypes := ts }) ty e w = .ok (.enter 130 (args.map (ev e))) w := rG_call Try.func130 (by kernel_rfl) (by kernel_rfl)
theorem call131 {args : Array Operand} {ts : Array TypeId} : rG Try.prog (.call { callee := .value (.func 131), args := args, argTypes := ts }) ty e w = .ok (.enter 131 (args.map (ev e))) w := rG_call Try.func131 (by kernel_rfl) (by kernel_rfl)
theorem call132 {args : Array Operand} {ts : Array TypeId} : rG Try.prog (.call { callee := .value (.func 132), args := args, argTypes := ts }) ty e w = .ok (.enter 132 (args.map (ev e))) w := rG_call Try.func132 (by kernel_rfl) (by kernel_rfl)
theorem call133 {args : Array Operand} {ts : Array TypeId} : rG Try.prog (.call { callee := .value (.func 133), args := args, argTypes := ts }) ty e w = .ok (.enter 133 (args.map (ev e))) w := rG_call Try.func133 (by kernel_rfl) (by kernel_rfl)
theorem call134 {args : Array Operand} {ts : Array TypeId} : rG Try.prog (.call { callee := .value (.func 134), args := args, argTypes := ts }) ty e w = .ok (.enter 134 (args.map (ev e))) w := rG_call Try.func134 (by kernel_rfl) (by kernel_rfl)
theorem call136 {args : Array Operand} {ts : Array TypeId} : rG Try.prog (.call { callee := .value (.func 136), args := args, argTypes := ts }) ty e w = .ok (.enter 136 (args.map (ev e))) w := rG_call Try.func136 (by kernel_rfl) (by kernel_rfl)
theorem call137 {args : Array Operand} {ts : Array TypeId} : rG Try.prog (.call { callee := .value (.func 137), args := args, argTypes := ts }) ty e w = .ok (.enter 137 (args.map (ev e))) w := rG_call Try.func137 (by kernel_rfl) (by kernel_rfl)
theorem call138 {args : Array Operand} {ts : Array TypeId} : rG Try.prog (.call { callee := .value (.func 138), args := args, argTypes := ts }) ty e w = .ok (.enter 138 (args.map (ev e))) w := rG_call Try.func138 (by kernel_rfl) (by kernel_rfl)
theorem call139 {args : Array Operand} {ts : Array TypeId} : rG Try.prog (.call { callee := .value (.func 139), args := args, argTypes := ts }) ty e w = .ok (.enter 139 (args.map (ev e))) w := rG_call Try.func139 (by kernel_rfl) (by kernel_rfl)
theorem call140 {args : Array Operand} {ts : Array TypeId} : rG Try.prog (.call { callee := .value (.func 140), args := args, argTypes := ts }) ty e w = .ok (.enter 140 (args.map (ev e))) w := rG_call Try.func140 (by kernel_rfl) (by kernel_rfl)
theorem call141 {args : Array Operand} {ts : Array TypeId} : rG Try.prog (.call { callee := .value (.func 141), args := args, argTypes := ts }) ty e w = .ok (.enter 141 (args.map (ev e))) w := rG_call Try.func141 (by kernel_rfl) (by kernel_rfl)
theorem call142 {args : Array Operand} {ts : Array TypeId} : rG Try.prog (.call { callee := .value (.func 142), args := args, argTypes := ts }) ty e w = .ok (.enter 142 (args.map (ev e))) w := rG_call Try.func142 (by kernel_rfl) (by kernel_rfl)
theorem call143 {args : Array Operand} {ts : Array TypeId} : rG Try.prog (.call { callee := .value (.func 143), args := args, argTypes := ts }) ty e w = .ok (.enter 143 (args.map (ev e))) w := rG_call Try.func143 (by kernel_rfl) (by kernel_rfl)
theorem call144 {args : Array Operand} {ts : Array TypeId} : rG Try.prog (.call { callee := .value (.func 144), args := args, argTypes := ts }) ty e w = .ok (.enter 144 (args.map (ev e))) w := rG_call Try.func144 (by kernel_rfl) (by kernel_rfl)
theorem call145 {args : Array Operand} {ts : Array TypeId} : rG Try.prog (.call { callee := .value (.func 145), args := args, argTypes := ts }) ty e w = .ok (.enter 145 (args.map (ev e))) w := rG_call Try.func145 (by kernel_rfl) (by kernel_rfl)
theorem call146 {args : Array Operand} {ts : Array TypeId} : rG Try.prog (.call { callee := .value (.func 146), args := args, argTypes := ts }) ty e w = .ok (.enter 146 (args.map (ev e))) w := rG_call Try.func146 (by kernel_rfl) (by kernel_rfl)
theorem call147 {args : Array Operand} {ts : Array TypeId} : rG Try.prog (.call { callee := .value (.func 147), args := args, argTypes := ts }) ty e w = .ok (.enter 147 (args.map (ev e))) w := rG_call Try.func147 (by kernel_rfl) (by kernel_rfl)
theorem call148 {args : Array Operand} {ts : Array TypeId} : rG Try.prog (.call { callee := .value (.func 148), args := args, argTypes := ts }) ty e w = .ok (.enter 148 (args.map (ev e))) w := rG_call Try.func148 (by kernel_rfl) (by kernel_rfl)
theorem call149 {args : Array Operand} {ts : Array TypeId} : rG Try.prog (.call { callee := .value (.func 149), args := args, argTypes := ts }) ty e w = .ok (.enter 149 (args.map (ev e))) w := rG_call Try.func149 (by kernel_rfl) (by kernel_rfl)
theorem call150 {args : Array Operand} {ts : Array TypeId} : rG Try.prog (.call { callee := .value (.func 150), args := args, argTypes := ts }) ty e w = .ok (.enter 150 (args.map (ev e))) w := rG_call Try.func150 (by kernel_rfl) (by kernel_rfl)
theorem call151 {args : Array Operand} {ts : Array TypeId} : rG Try.prog (.call { callee := .value (.func 151), args := args, argTypes := ts }) ty e w = .ok (.enter 151 (args.map (ev e))) w := rG_call Try.func151 (by kernel_rfl) (by kernel_rfl)
theorem call152 {args : Array Operand} {ts : Array TypeId} : rG Try.prog (.call { callee := .value (.func 152), args := args, argTypes := ts }) ty e w = .ok (.enter 152 (args.map (ev e))) w := rG_call Try.func152 (by kernel_rfl) (by kernel_rfl)
theorem call153 {args : Array Operand} {ts : Array TypeId} : rG Try.prog (.call { callee := .value (.func 153), args := args, argTypes := ts }) ty e w = .ok (.enter 153 (args.map (ev e))) w := rG_call Try.func153 (by kernel_rfl) (by kernel_rfl)
theorem call154 {args : Array Operand} {ts : Array TypeId} : rG Try.prog (.call { callee := .value (.func 154), args := args, argTypes := ts }) ty e w = .ok (.enter 154 (args.map (ev e))) w := rG_call Try.func154 (by kernel_rfl) (by kernel_rfl)
theorem call155 {args : Array Operand} {ts : Array TypeId} : rG Try.prog (.call { callee := .value (.func 155), args := args, argTypes := ts }) ty e w = .ok (.enter 155 (args.map (ev e))) w := rG_call Try.func155 (by kernel_rfl) (by kernel_rfl)
theorem call156 {args : Array Operand} {ts : Array TypeId} : rG Try.prog (.call { callee := .value (.func 156), args := args, argTypes := ts }) ty e w = .ok (.enter 156 (args.map (ev e))) w := rG_call Try.func156 (by kernel_rfl) (by kernel_rfl)
theorem call157 {args : Array Operand} {ts : Array TypeId} : rG Try.prog (.call { callee := .value (.func 157), args := args, argTypes := ts }) ty e w = .ok (.enter 157 (args.map (ev e))) w := rG_call Try.func157 (by kernel_rfl) (by kernel_rfl)
theorem call158 {args : Array Operand} {ts : Array TypeId} : rG Try.prog (.call { callee := .value (.func 158), args := args, argTypes := ts }) ty e w = .ok (.enter 158 (args.map (ev e))) w := rG_call Try.func158 (by kernel_rfl) (by kernel_rfl)
theorem call159 {args : Array Operand} {ts : Array TypeId} : rG Try.prog (.call { callee := .value (.func 159), args := args, argTypes := ts }) ty e w = .ok (.enter 159 (args.map (ev e))) w := rG_call Try.func159 (by kernel_rfl) (by kernel_rfl)
theorem call160 {args : Array Operand} {ts : Array TypeId} : rG Try.prog (.call { callee := .value (.func 160), args := args, argTypes := ts }) ty e w = .ok (.enter 160 (args.map (ev e))) w := rG_call Try.func160 (by kernel_rfl) (by kernel_rfl)
theorem call161 {args : Array Operand} {ts : Array TypeId} : rG Try.prog (.call { callee := .value (.func 161), args := args, argTypes := ts }) ty e w = .ok (.enter 161 (args.map (ev e))) w := rG_call Try.func161 (by kernel_rfl) (by kernel_rfl)
theorem call162 {args : Array Operand} {ts : Array TypeId} : rG Try.prog (.call { callee := .value (.func 162), args := args, argTypes := ts }) ty e w = .ok (.enter 162 (args.map (ev e))) w := rG_call Try.func162 (by kernel_rfl) (by kernel_rfl)
theorem call163 {args : Array Operand} {ts : Array TypeId} : rG Try.prog (.call { callee := .value (.func 163), args := args, argTypes := ts }) ty e w = .ok (.enter 163 (args.map (ev e))) w := rG_call Try.func163 (by kernel_rfl) (by kernel_rfl)
theorem call164 {args : Array Operand} {ts : Array TypeId} : rG Try.prog (.call { callee := .value (.func 164), args := args, argTypes := ts }) ty e w = .ok (.enter 164 (args.map (ev e))) w := rG_call Try.func164 (by kernel_rfl) (by kernel_rfl)
theorem call165 {args : Array Operand} {ts : Array TypeId} : rG Try.prog (.call { callee := .value (.func 165), args := args, argTypes := ts }) ty e w = .ok (.enter 165 (args.map (ev e))) w := rG_call Try.func165 (by kernel_rfl) (by kernel_rfl)
theorem call166 {args : Array Operand} {ts : Array TypeId} : rG Try.prog (.call { callee := .value (.func 166), args := args, argTypes := ts }) ty e w = .ok (.enter 166 (args.map (ev e))) w := rG_call Try.func166 (by kernel_rfl) (by kernel_rfl)
theorem call167 {args : Array Operand} {ts : Array TypeId} : rG Try.prog (.call { callee := .value (.func 167), args := args, argTypes := ts }) ty e w = .ok (.enter 167 (args.map (ev e))) w := rG_call Try.func167 (by kernel_rfl) (by kernel_rfl)
theorem call168 {args : Array Operand} {ts : Array TypeId} : rG Try.prog (.call { callee := .value (.func 168), args := args, argTypes := ts }) ty e w = .ok (.enter 168 (args.map (ev e))) w := rG_call Try.func168 (by kernel_rfl) (by kernel_rfl)
theorem call169 {args : Array Operand} {ts : Array TypeId} : rG Try.prog (.call { callee := .value (.func 169), args := args, argTypes := ts }) ty e w = .ok (.enter 169 (args.map (ev e))) w := rG_call Try.func169 (by kernel_rfl) (by kernel_rfl)
theorem call17 {args : Array Operand} {ts : Array TypeId} : rG Try.prog (.call { callee := .value (.func 17), args := args, argTypes := ts }) ty e w = .ok (.enter 17 (args.map (ev e))) w := rG_call Try.func17 (by kernel_rfl) (by kernel_rfl)
theorem call170 {args : Array Operand} {ts : Array TypeId} : rG Try.prog (.call { callee := .value (.func 170), args := args, argTypes := ts }) ty e w = .ok (.enter 170 (args.map (ev e))) w := rG_call Try.func170 (by kernel_rfl) (by kernel_rfl)
theorem call171 {args : Array Operand} {ts : Array TypeId} : rG Try.prog (.call { callee := .value (.func 171), args := args, argTypes := ts }) ty e w = .ok (.enter 171 (args.map (ev e))) w := rG_call Try.func171 (by kernel_rfl) (by kernel_rfl)
theorem call172 {args : Array Operand} {ts : Array TypeId} : rG Try.prog (.call { callee := .value (.func 172), args := args, argTypes := ts }) ty e w = .ok (.enter 172 (args.map (ev e))) w := rG_call Try.func172 (by kernel_rfl) (by kernel_rfl)
theorem call173 {args : Array Operand} {ts : Array TypeId} : rG Try.prog (.call { callee := .value (.func 173), args := args, argTypes := ts }) ty e w = .ok (.enter 173 (args.map (ev e))) w := rG_call Try.func173 (by kernel_rfl) (by kernel_rfl)
theorem call174 {args : Array Operand} {ts : Array TypeId} : rG Try.prog (.call { callee := .value (.func 174), args := args, argTypes := ts }) ty e w = .ok (.enter 174 (args.map (ev e))) w := rG_call Try.func174 (by kernel_rfl) (by kernel_rfl)
theorem call175 {args : Array Operand} {ts : Array TypeId} : rG Try.prog (.call { callee := .value (.func 175), args := args, argTypes := ts }) ty e w = .ok (.enter 175 (args.map (ev e))) w := rG_call Try.func175 (by kernel_rfl) (by kernel_rfl)
theorem call176 {args : Array Operand} {ts : Array TypeId} : rG Try.prog (.call { callee := .value (.func 176), args := args, argTypes := ts }) ty e w = .ok (.enter 176 (args.map (ev e))) w := rG_call Try.func176 (by kernel_rfl) (by kernel_rfl)
theorem call177 {args : Array Operand} {ts : Array TypeId} : rG Try.prog (.call { callee := .value (.func 177), args := args, argTypes := ts }) ty e w = .ok (.enter 177 (args.map (ev e))) w := rG_call Try.func177 (by kernel_rfl) (by kernel_rfl)
theorem call178 {args : Array Operand} {ts : Array TypeId} : rG Try.prog (.call { callee := .value (.func 178), args := args, argTypes := ts }) ty e w = .ok (.enter 178 (args.map (ev e))) w := rG_call Try.func178 (by kernel_rfl) (by kernel_rfl)
theorem call179 {args : Array Operand} {ts : Array TypeId} : rG Try.prog (.call { callee := .value (.func 179), args := args, argTypes := ts }) ty e w = .ok (.enter 179 (args.map (ev e))) w := rG_call Try.func179 (by kernel_rfl) (by kernel_rfl)
theorem call18 {args : Array Operand} {ts : Array TypeId} : rG Try.prog (.call { callee := .value (.func 18), args := args, argTypes := ts }) ty e w = .ok (.enter 18 (args.map (ev e))) w := rG_call Try.func18 (by kernel_rfl) (by kernel_rfl)
theorem call180 {args : Array Operand} {ts : Array TypeId} : rG Try.prog (.call { callee := .value (.func 180), args := args, argTypes := ts }) ty e w = .ok (.enter 180 (args.map (ev e))) w := rG_call Try.func180 (by kernel_rfl) (by kernel_rfl)
theorem call181 {args : Array Operand} {ts : Array TypeId} : rG Try.prog (.call { callee := .value (.func 181), args := args, argTypes := ts }) ty e w = .ok (.enter 181 (args.map (ev e))) w := rG_call Try.func181 (by kernel_rfl) (by kernel_rfl)
theorem call19 {args : Array Operand} {ts : Array TypeId} : rG Try.prog (.call { callee := .value (.func 19), args := args, argTypes := ts }) ty e w = .ok (.enter 19 (args.map (ev e))) w := rG_call Try.func19 (by kernel_rfl) (by kernel_rfl)
theorem call20 {args : Array Operand} {ts : Array TypeId} : rG Try.prog (.call { callee := .value (.func 20), args := args, argTypes := ts }) ty e w = .ok (.enter 20 (args.map (ev e))) w := rG_call Try.func20 (by kernel_rfl) (by kernel_rfl)
theorem call21 {args : Array Operand} {ts : Array TypeId} : rG Try.prog (.call { callee := .value (.func 21), args := args, argTypes := ts }) ty e w = .ok (.enter 21 (args.map (ev e))) w := rG_call Try.func21 (by kernel_rfl) (by kernel_rfl)
theorem call22 {args : Array Operand} {ts : Array TypeId} : rG Try.prog (.call { callee := .value (.func 22), args := args, argTypes := ts }) ty e w = .ok (.enter 22 (args.map (ev e))) w := rG_call Try.func22 (by kernel_rfl) (by kernel_rfl)
theorem call23 {args : Array Operand} {ts : Array TypeId} : rG Try.prog (.call { callee := .value (.func 23), args := args, argTypes := ts }) ty e w = .ok (.enter 23 (args.map (ev e))) w := rG_call Try.func23 (by kernel_rfl) (by kernel_rfl)
theorem call24 {args : Array Operand} {ts : Array TypeId} : rG Try.prog (.call { callee := .value (.func 24), args := args, argTypes := ts }) ty e w = .ok (.enter 24 (args.map (ev e))) w := rG_call Try.func24 (by kernel_rfl) (by kernel_rfl)
theorem call25 {args : Array Operand} {ts : Array TypeId} : rG Try.prog (.call { callee := .value (.func 25), args := args, argTypes := ts }) ty e w = .ok (.enter 25 (args.map (ev e))) w := rG_call Try.func25 (by kernel_rfl) (by kernel_rfl)
theorem call26 {args : Array Operand} {ts : Array TypeId} : rG Try.prog (.call { callee := .value (.func 26), args := args, argTypes := ts }) ty e w = .ok (.enter 26 (args.map (ev e))) w := rG_call Try.func26 (by kernel_rfl) (by kernel_rfl)
theorem call27 {args : Array Operand} {ts : Array TypeId} : rG Try.prog (.call { callee := .value (.func 27), args := args, argTypes := ts }) ty e w = .ok (.enter 27 (args.map (ev e))) w := rG_call Try.func27 (by kernel_rfl) (by kernel_rfl)
theorem call28 {args : Array Operand} {ts : Array TypeId} : rG Try.prog (.call { callee := .value (.func 28), args := args, argTypes := ts }) ty e w = .ok (.enter 28 (args.map (ev e))) w := rG_call Try.func28 (by kernel_rfl) (by kernel_rfl)
theorem call29 {args : Array Operand} {ts : Array TypeId} : rG Try.prog (.call { callee := .value (.func 29), args := args, argTypes := ts }) ty e w = .ok (.enter 29 (args.map (ev e))) w := rG_call Try.func29 (by kernel_rfl) (by kernel_rfl)
theorem call30 {args : Array Operand} {ts : Array TypeId} : rG Try.prog (.call { callee := .value (.func 30), args := args, argTypes := ts }) ty e w = .ok (.enter 30 (args.map (ev e))) w := rG_call Try.func30 (by kernel_rfl) (by kernel_rfl)
theorem call31 {args : Array Operand} {ts : Array TypeId} : rG Try.prog (.call { callee := .value (.func 31), args := args, argTypes := ts }) ty e w = .ok (.enter 31 (args.map (ev e))) w := rG_call Try.func31 (by kernel_rfl) (by kernel_rfl)
theorem call32 {args : Array Operand} {ts : Array TypeId} : rG Try.prog (.call { callee := .value (.func 32), args := args, argTypes := ts }) ty e w = .ok (.enter 32 (args.map (ev e))) w := rG_call Try.func32 (by kernel_rfl) (by kernel_rfl)
theorem call33 {args : Array Operand} {ts : Array TypeId} : rG Try.prog (.call { callee := .value (.func 33), args := args, argTypes := ts }) ty e w = .ok (.enter 33 (args.map (ev e))) w := rG_call Try.func33 (by kernel_rfl) (by kernel_rfl)
theorem call34 {args : Array Operand} {ts : Array TypeId} : rG Try.prog (.call { callee := .value (.func 34), args := args, argTypes := ts }) ty e w = .ok (.enter 34 (args.map (ev e))) w := rG_call Try.func34 (by kernel_rfl) (by kernel_rfl)
theorem call35 {args : Array Operand} {ts : Array TypeId} : rG Try.prog (.call { callee := .value (.func 35), args := args, argTypes := ts }) ty e w = .ok (.enter 35 (args.map (ev e))) w := rG_call Try.func35 (by kernel_rfl) (by kernel_rfl)
theorem call36 {args : Array Operand} {ts : Array TypeId} : rG Try.prog (.call { callee := .value (.func 36), args := args, argTypes := ts }) ty e w = .ok (.enter 36 (args.map (ev e))) w := rG_call Try.func36 (by kernel_rfl) (by kernel_rfl)
theorem call37 {args : Array Operand} {ts : Array TypeId} : rG Try.prog (.call { callee := .value (.func 37), args := args, argTypes := ts }) ty e w = .ok (.enter 37 (args.map (ev e))) w := rG_call Try.func37 (by kernel_rfl) (by kernel_rfl)
theorem call38 {args : Array Operand} {ts : Array TypeId} : rG Try.prog (.call { callee := .value (.func 38), args := args, argTypes := ts }) ty e w = .ok (.enter 38 (args.map (ev e))) w := rG_call Try.func38 (by kernel_rfl) (by kernel_rfl)
theorem call39 {args : Array Operand} {ts : Array TypeId} : rG Try.prog (.call { callee := .value (.func 39), args := args, argTypes := ts }) ty e w = .ok (.enter 39 (args.map (ev e))) w := rG_call Try.func39 (by kernel_rfl) (by kernel_rfl)
theorem call40 {args : Array Operand} {ts : Array TypeId} : rG Try.prog (.call { callee := .value (.func 40), args := args, argTypes := ts }) ty e w = .ok (.enter 40 (args.map (ev e))) w := rG_call Try.func40 (by kernel_rfl) (by kernel_rfl)
theorem call41 {args : Array Operand} {ts : Array TypeId} : rG Try.prog (.call { callee := .value (.func 41), args := args, argTypes := ts }) ty e w = .ok (.enter 41 (args.map (ev e))) w := rG_call Try.func41 (by kernel_rfl) (by kernel_rfl)
theorem call42 {args : Array Operand} {ts : Array TypeId} : rG Try.prog (.call { callee := .value (.func 42), args := args, argTypes := ts }) ty e w = .ok (.enter 42 (args.map (ev e))) w := rG_call Try.func42 (by kernel_rfl) (by kernel_rfl)
theorem call43 {args : Array Operand} {ts : Array TypeId} : rG Try.prog (.call { callee := .value (.func 43), args := args, argTypes := ts }) ty e w = .ok (.enter 43 (args.map (ev e))) w := rG_call Try.func43 (by kernel_rfl) (by kernel_rfl)
theorem call44 {args : Array Operand} {ts : Array TypeId} : rG Try.prog (.call { callee := .value (.func 44), args := args, argTypes := ts }) ty e w = .ok (.enter 44 (args.map (ev e))) w := rG_call Try.func44 (by kernel_rfl) (by kernel_rfl)
theorem call45 {args : Array Operand} {ts : Array TypeId} : rG Try.prog (.call { callee := .value (.func 45), args := args, argTypes := ts }) ty e w = .ok (.enter 45 (args.map (ev e))) w := rG_call Try.func45 (by kernel_rfl) (by kernel_rfl)
theorem call46 {args : Array Operand} {ts : Array TypeId} : rG Try.prog (.call { callee := .value (.func 46), args := args, argTypes := ts }) ty e w = .ok (.enter 46 (args.map (ev e))) w := rG_call Try.func46 (by kernel_rfl) (by kernel_rfl)
theorem call47 {args : Array Operand} {ts : Array TypeId} : rG Try.prog (.call { callee := .value (.func 47), args := args, argTypes := ts }) ty e w = .ok (.enter 47 (args.map (ev e))) w := rG_call Try.func47 (by kernel_rfl) (by kernel_rfl)
theorem call48 {args : Array Operand} {ts : Array TypeId} : rG Try.prog (.call { callee := .value (.func 48), args := args, argTypes := ts }) ty e w = .ok (.enter 48 (args.map (ev e))) w := rG_call Try.func48 (by kernel_rfl) (by kernel_rfl)
theorem call49 {args : Array Operand} {ts : Array TypeId} : rG Try.prog (.call { callee := .value (.func 49), args := args, argTypes := ts }) ty e w = .ok (.enter 49 (args.map (ev e))) w := rG_call Try.func49 (by kernel_rfl) (by kernel_rfl)
theorem call50 {args : Array Operand} {ts : Array TypeId} : rG Try.prog (.call { callee := .value (.func 50), args := args, argTypes := ts }) ty e w = .ok (.enter 50 (args.map (ev e))) w := rG_call Try.func50 (by kernel_rfl) (by kernel_rfl)
theorem call51 {args : Array Operand} {ts : Array TypeId} : rG Try.prog (.call { callee := .value (.func 51), args := args, argTypes := ts }) ty e w = .ok (.enter 51 (args.map (ev e))) w := rG_call Try.func51 (by kernel_rfl) (by kernel_rfl)
theorem call52 {args : Array Operand} {ts : Array TypeId} : rG Try.prog (.call { callee := .value (.func 52), args := args, argTypes := ts }) ty e w = .ok (.enter 52 (args.map (ev e))) w := rG_call Try.func52 (by kernel_rfl) (by kernel_rfl)
theorem call53 {args : Array Operand} {ts : Array TypeId} : rG Try.prog (.call { callee := .value (.func 53), args := args, argTypes := ts }) ty e w = .ok (.enter 53 (args.map (ev e))) w := rG_call Try.func53 (by kernel_rfl) (by kernel_rfl)
theorem call54 {args : Array Operand} {ts : Array TypeId} : rG Try.prog (.call { callee := .value (.func 54), args := args, argTypes := ts }) ty e w = .ok (.enter 54 (args.map (ev e))) w := rG_call Try.func54 (by kernel_rfl) (by kernel_rfl)
theorem call55 {args : Array Operand} {ts : Array TypeId} : rG Try.prog (.call { callee := .value (.func 55), args := args, argTypes := ts }) ty e w = .ok (.enter 55 (args.map (ev e))) w := rG_call Try.func55 (by kernel_rfl) (by kernel_rfl)
theorem call56 {args : Array Operand} {ts : Array TypeId} : rG Try.prog (.call { callee := .value (.func 56), args := args, argTypes := ts }) ty e w = .ok (.enter 56 (args.map (ev e))) w := rG_call Try.func56 (by kernel_rfl) (by kernel_rfl)
theorem call57 {args : Array Operand} {ts : Array TypeId} : rG Try.prog (.call { callee := .value (.func 57), args := args, argTypes := ts }) ty e w = .ok (.enter 57 (args.map (ev e))) w := rG_call Try.func57 (by kernel_rfl) (by kernel_rfl)
theorem call58 {args : Array Operand} {ts : Array TypeId} : rG Try.prog (.call { callee := .value (.func 58), args := args, argTypes := ts }) ty e w = .ok (.enter 58 (args.map (ev e))) w := rG_call Try.func58 (by kernel_rfl) (by kernel_rfl)
theorem call59 {args : Array Operand} {ts : Array TypeId} : rG Try.prog (.call { callee := .value (.func 59), args := args, argTypes := ts }) ty e w = .ok (.enter 59 (args.map (ev e))) w := rG_call Try.func59 (by kernel_rfl) (by kernel_rfl)
theorem call60 {args : Array Operand} {ts : Array TypeId} : rG Try.prog (.call { callee := .value (.func 60), args := args, argTypes := ts }) ty e w = .ok (.enter 60 (args.map (ev e))) w := rG_call Try.func60 (by kernel_rfl) (by kernel_rfl)
theorem call61 {args : Array Operand} {ts : Array TypeId} : rG Try.prog (.call { callee := .value (.func 61), args := args, argTypes := ts }) ty e w = .ok (.enter 61 (args.map (ev e))) w := rG_call Try.func61 (by kernel_rfl) (by kernel_rfl)
theorem call62 {args : Array Operand} {ts : Array TypeId} : rG Try.prog (.call { callee := .value (.func 62), args := args, argTypes := ts }) ty e w = .ok (.enter 62 (args.map (ev e))) w := rG_call Try.func62 (by kernel_rfl) (by kernel_rfl)
theorem call63 {args : Array Operand} {ts : Array TypeId} : rG Try.prog (.call { callee := .value (.func 63), args := args, argTypes := ts }) ty e w = .ok (.enter 63 (args.map (ev e))) w := rG_call Try.func63 (by kernel_rfl) (by kernel_rfl)
theorem call64 {args : Array Operand} {ts : Array TypeId} : rG Try.prog (.call { callee := .value (.func 64), args := args, argTypes := ts }) ty e w = .ok (.enter 64 (args.map (ev e))) w := rG_call Try.func64 (by kernel_rfl) (by kernel_rfl)
theorem call65 {args : Array Operand} {ts : Array TypeId} : rG Try.prog (.call { callee := .value (.func 65), args := args, argTypes := ts }) ty e w = .ok (.enter 65 (args.map (ev e))) w := rG_call Try.func65 (by kernel_rfl) (by kernel_rfl)
theorem call66 {args : Array Operand} {ts : Array TypeId} : rG Try.prog (.call { callee := .value (.func 66), args := args, argTypes := ts }) ty e w = .ok (.enter 66 (args.map (ev e))) w := rG_call Try.func66 (by kernel_rfl) (by kernel_rfl)
theorem call67 {args : Array Operand} {ts : Array TypeId} : rG Try.prog (.call { callee := .value (.func 67), args := args, argTypes := ts }) ty e w = .ok (.enter 67 (args.map (ev e))) w := rG_call Try.func67 (by kernel_rfl) (by kernel_rfl)
theorem call68 {args : Array Operand} {ts : Array TypeId} : rG Try.prog (.call { callee := .value (.func 68), args := args, argTypes := ts }) ty e w = .ok (.enter 68 (args.map (ev e))) w := rG_call Try.func68 (by kernel_rfl) (by kernel_rfl)
theorem call69 {args : Array Operand} {ts : Array TypeId} : rG Try.prog (.call { callee := .value (.func 69), args := args, argTypes := ts }) ty e w = .ok (.enter 69 (args.map (ev e))) w := rG_call Try.func69 (by kernel_rfl) (by kernel_rfl)
theorem call70 {args : Array Operand} {ts : Array TypeId} : rG Try.prog (.call { callee := .value (.func 70), args := args, argTypes := ts }) ty e w = .ok (.enter 70 (args.map (ev e))) w := rG_call Try.func70 (by kernel_rfl) (by kernel_rfl)
theorem call71 {args : Array Operand} {ts : Array TypeId} : rG Try.prog (.call { callee := .value (.func 71), args := args, argTypes := ts }) ty e w = .ok (.enter 71 (args.map (ev e))) w := rG_call Try.func71 (by kernel_rfl) (by kernel_rfl)
theorem call72 {args : Array Operand} {ts : Array TypeId} : rG Try.prog (.call { callee := .value (.func 72), args := args, argTypes := ts }) ty e w = .ok (.enter 72 (args.map (ev e))) w := rG_call Try.func72 (by kernel_rfl) (by kernel_rfl)
theorem call73 {args : Array Operand} {ts : Array TypeId} : rG Try.prog (.call { callee := .value (.func 73), args := args, argTypes := ts }) ty e w = .ok (.enter 73 (args.map (ev e))) w := rG_call Try.func73 (by kernel_rfl) (by kernel_rfl)
theorem call74 {args : Array Operand} {ts : Array TypeId} : rG Try.prog (.call { callee := .value (.func 74), args := args, argTypes := ts }) ty e w = .ok (.enter 74 (args.map (ev e))) w := rG_call Try.func74 (by kernel_rfl) (by kernel_rfl)
theorem call75 {args : Array Operand} {ts : Array TypeId} : rG Try.prog (.call { callee := .value (.func 75), args := args, argTypes := ts }) ty e w = .ok (.enter 75 (args.map (ev e))) w := rG_call Try.func75 (by kernel_rfl) (by kernel_rfl)
theorem call76 {args : Array Operand} {ts : Array TypeId} : rG Try.prog (.call { callee := .value (.func 76), args := args, argTypes := ts }) ty e w = .ok (.enter 76 (args.map (ev e))) w := rG_call Try.func76 (by kernel_rfl) (by kernel_rfl)
theorem call77 {args : Array Operand} {ts : Array TypeId} : rG Try.prog (.call { callee := .value (.func 77), args := args, argTypes := ts }) ty e w = .ok (.enter 77 (args.map (ev e))) w := rG_call Try.func77 (by kernel_rfl) (by kernel_rfl)
theorem call78 {args : Array Operand} {ts : Array TypeId} : rG Try.prog (.call { callee := .value (.func 78), args := args, argTypes := ts }) ty e w = .ok (.enter 78 (args.map (ev e))) w := rG_call Try.func78 (by kernel_rfl) (by kernel_rfl)
theorem call79 {args : Array Operand} {ts : Array TypeId} : rG Try.prog (.call { callee := .value (.func 79), args := args, argTypes := ts }) ty e w = .ok (.enter 79 (args.map (ev e))) w := rG_call Try.func79 (by kernel_rfl) (by kernel_rfl)
theorem call80 {args : Array Operand} {ts : Array TypeId} : rG Try.prog (.call { callee := .value (.func 80), args := args, argTypes := ts }) ty e w = .ok (.enter 80 (args.map (ev e))) w := rG_call Try.func80 (by kernel_rfl) (by kernel_rfl)
theorem call81 {args : Array Operand} {ts : Array TypeId} : rG Try.prog (.call { callee := .value (.func 81), args := args, argTypes := ts }) ty e w = .ok (.enter 81 (args.map (ev e))) w := rG_call Try.func81 (by kernel_rfl) (by kernel_rfl)
theorem call82 {args : Array Operand} {ts : Array TypeId} : rG Try.prog (.call { callee := .value (.func 82), args := args, argTypes := ts }) ty e w = .ok (.enter 82 (args.map (ev e))) w := rG_call Try.func82 (by kernel_rfl) (by kernel_rfl)
theorem call83 {args : Array Operand} {ts : Array TypeId} : rG Try.prog (.call { callee := .value (.func 83), args := args, argTypes := ts }) ty e w = .ok (.enter 83 (args.map (ev e))) w := rG_call Try.func83 (by kernel_rfl) (by kernel_rfl)
theorem call84 {args : Array Operand} {ts : Array TypeId} : rG Try.prog (.call { callee := .value (.func 84), args := args, argTypes := ts }) ty e w = .ok (.enter 84 (args.map (ev e))) w := rG_call Try.func84 (by kernel_rfl) (by kernel_rfl)
theorem call85 {args : Array Operand} {ts : Array TypeId} : rG Try.prog (.call { callee := .value (.func 85), args := args, argTypes := ts }) ty e w = .ok (.enter 85 (args.map (ev e))) w := rG_call Try.func85 (by kernel_rfl) (by kernel_rfl)
theorem call86 {args : Array Operand} {ts : Array TypeId} : rG Try.prog (.call { callee := .value (.func 86), args := args, argTypes := ts }) ty e w = .ok (.enter 86 (args.map (ev e))) w := rG_call Try.func86 (by kernel_rfl) (by kernel_rfl)
theorem call87 {args : Array Operand} {ts : Array TypeId} : rG Try.prog (.call { callee := .value (.func 87), args := args, argTypes := ts }) ty e w = .ok (.enter 87 (args.map (ev e))) w := rG_call Try.func87 (by kernel_rfl) (by kernel_rfl)
theorem call88 {args : Array Operand} {ts : Array TypeId} : rG Try.prog (.call { callee := .value (.func 88), args := args, argTypes := ts }) ty e w = .ok (.enter 88 (args.map (ev e))) w := rG_call Try.func88 (by kernel_rfl) (by kernel_rfl)
theorem call89 {args : Array Operand} {ts : Array TypeId} : rG Try.prog (.call { callee := .value (.func 89), args := args, argTypes := ts }) ty e w = .ok (.enter 89 (args.map (ev e))) w := rG_call Try.func89 (by kernel_rfl) (by kernel_rfl)
theorem call90 {args : Array Operand} {ts : Array TypeId} : rG Try.prog (.call { callee := .value (.func 90), args := args, argTypes := ts }) ty e w = .ok (.enter 90 (args.map (ev e))) w := rG_call Try.func90 (by kernel_rfl) (by kernel_rfl)
theorem call91 {args : Array Operand} {ts : Array TypeId} : rG Try.prog (.call { callee := .value (.func 91), args := args, argTypes := ts }) ty e w = .ok (.enter 91 (args.map (ev e))) w := rG_call Try.func91 (by kernel_rfl) (by kernel_rfl)
theorem call92 {args : Array Operand} {ts : Array TypeId} : rG Try.prog (.call { callee := .value (.func 92), args := args, argTypes := ts }) ty e w = .ok (.enter 92 (args.map (ev e))) w := rG_call Try.func92 (by kernel_rfl) (by kernel_rfl)
theorem call93 {args : Array Operand} {ts : Array TypeId} : rG Try.prog (.call { callee := .value (.func 93), args := args, argTypes := ts }) ty e w = .ok (.enter 93 (args.map (ev e))) w := rG_call Try.func93 (by kernel_rfl) (by kernel_rfl)
theorem call94 {args : Array Operand} {ts : Array TypeId} : rG Try.prog (.call { callee := .value (.func 94), args := args, argTypes := ts }) ty e w = .ok (.enter 94 (args.map (ev e))) w := rG_call Try.func94 (by kernel_rfl) (by kernel_rfl)
theorem call95 {args : Array Operand} {ts : Array TypeId} : rG Try.prog (.call { callee := .value (.func 95), args := args, argTypes := ts }) ty e w = .ok (.enter 95 (args.map (ev e))) w := rG_call Try.func95 (by kernel_rfl) (by kernel_rfl)
theorem call96 {args : Array Operand} {ts : Array TypeId} : rG Try.prog (.call { callee := .value (.func 96), args := args, argTypes := ts }) ty e w = .ok (.enter 96 (args.map (ev e))) w := rG_call Try.func96 (by kernel_rfl) (by kernel_rfl)
theorem call97 {args : Array Operand} {ts : Array TypeId} : rG Try.prog (.call { callee := .value (.func 97), args := args, argTypes := ts }) ty e w = .ok (.enter 97 (args.map (ev e))) w := rG_call Try.func97 (by kernel_rfl) (by kernel_rfl)
theorem call98 {args : Array Operand} {ts : Array TypeId} : rG Try.prog (.call { callee := .value (.func 98), args := args, argTypes := ts }) ty e w = .ok (.enter 98 (args.map (ev e))) w := rG_call Try.func98 (by kernel_rfl) (by kernel_rfl)
theorem call99 {args : Array Operand} {ts : Array TypeId} : rG Try.prog (.call { callee := .value (.func 99), args := args, argTypes := ts }) ty e w = .ok (.enter 99 (args.map (ev e))) w := rG_call Try.func99 (by kernel_rfl) (by kernel_rfl)
theorem T126 : TI Try.prog 126 (TypeDesc.int IntKind.u64) 1 8 (Value.int IntKind.u64 0) := TI.mk' Try.underlying126 (by kernel_rfl)
theorem T204 : TI Try.prog 204 (TypeDesc.int IntKind.u32) 1 4 (Value.int IntKind.u32 0) := TI.mk' Try.underlying204 (by kernel_rfl)
theorem cv126_204 : cvR Try.prog 126 204 (.int k i) w = .ok (.int .u32 (IntKind.u32.wrap i)) w := cvR_int T126 T204
theorem cv126_3 : cvR Try.prog 126 3 (.int k i) w = .ok (.int .i64 (IntKind.i64.wrap i)) w := cvR_int T126 T3
theorem T5 : TI Try.prog 5 (TypeDesc.int IntKind.u8) 1 1 (Value.int IntKind.u8 0) := TI.mk' Try.underlying5 (by kernel_rfl)
theorem cv204_5 : cvR Try.prog 204 5 (.int k i) w = .ok (.int .u8 (IntKind.u8.wrap i)) w := cvR_int T204 T5
theorem cv3_126 : cvR Try.prog 3 126 (.int k i) w = .ok (.int .u64 (IntKind.u64.wrap i)) w := cvR_int T3 T126
theorem cv3_206 : cvR Try.prog 3 206 (.int k i) w = .ok (.int .u64 (IntKind.u64.wrap i)) w := cvR_int T3 T206
theorem T52 : TI Try.prog 52 (TypeDesc.int IntKind.u64) 1 8 (Value.int IntKind.u64 0) := TI.mk' Try.underlying52 (by kernel_rfl)
theorem cv3_52 : cvR Try.prog 3 52 (.int k i) w = .ok (.int .u64 (IntKind.u64.wrap i)) w := cvR_int T3 T52
theorem cv5_3 : cvR Try.prog 5 3 (.int k i) w = .ok (.int .i64 (IntKind.i64.wrap i)) w := cvR_int T5 T3
theorem cv52_3 : cvR Try.prog 52 3 (.int k i) w = .ok (.int .i64 (IntKind.i64.wrap i)) w := cvR_int T52 T3
theorem cv52_5 : cvR Try.prog 52 5 (.int k i) w = .ok (.int .u8 (IntKind.u8.wrap i)) w := cvR_int T52 T5
theorem fa120_0 : faR Try.prog 120 (.pointer (some ⟨b, o, none⟩)) 0 w = .ok (.pointer (some ⟨b, o + 0, none⟩)) w := faR_of (ft := 3) (s2 := 1) (TI.mk' (sz := 20) (by_ := 192) (z := Value.agg #[Value.int IntKind.i64 0, Value.pointer none, Value.slice none 0 0, Value.slice none 0 0, Value.pointer none, Value.pointer none, Value.pointer none, Value.pointer none, Value.pointer none, Value.pointer none, Value.pointer none, Value.pointer none, Value.int IntKind.i64 0, Value.int IntKind.i64 0, Value.int IntKind.i64 0, Value.int IntKind.i64 0, Value.int IntKind.i64 0, Value.int IntKind.i64 0, Value.int IntKind.i64 0, Value.int IntKind.i64 0]) Try.underlying120 (by kernel_rfl)) rfl T3 (by decide)
theorem fa120_1 : faR Try.prog 120 (.pointer (some ⟨b, o, none⟩)) 1 w = .ok (.pointer (some ⟨b, o + 1, none⟩)) w := faR_of (ft := 114) (s2 := 1) (TI.mk' (sz := 20) (by_ := 192) (z := Value.agg #[Value.int IntKind.i64 0, Value.pointer none, Value.slice none 0 0, Value.slice none 0 0, Value.pointer none, Value.pointer none, Value.pointer none, Value.pointer none, Value.pointer none, Value.pointer none, Value.pointer none, Value.pointer none, Value.int IntKind.i64 0, Value.int IntKind.i64 0, Value.int IntKind.i64 0, Value.int IntKind.i64 0, Value.int IntKind.i64 0, Value.int IntKind.i64 0, Value.int IntKind.i64 0, Value.int IntKind.i64 0]) Try.underlying120 (by kernel_rfl)) rfl T114 (by decide)
theorem fa120_2 : faR Try.prog 120 (.pointer (some ⟨b, o, none⟩)) 2 w = .ok (.pointer (some ⟨b, o + 2, none⟩)) w := faR_of (ft := 116) (s2 := 1) (TI.mk' (sz := 20) (by_ := 192) (z := Value.agg #[Value.int IntKind.i64 0, Value.pointer none, Value.slice none 0 0, Value.slice none 0 0, Value.pointer none, Value.pointer none, Value.pointer none, Value.pointer none, Value.pointer none, Value.pointer none, Value.pointer none, Value.pointer none, Value.int IntKind.i64 0, Value.int IntKind.i64 0, Value.int IntKind.i64 0, Value.int IntKind.i64 0, Value.int IntKind.i64 0, Value.int IntKind.i64 0, Value.int IntKind.i64 0, Value.int IntKind.i64 0]) Try.underlying120 (by kernel_rfl)) rfl T116 (by decide)
theorem fa120_3 : faR Try.prog 120 (.pointer (some ⟨b, o, none⟩)) 3 w = .ok (.pointer (some ⟨b, o + 3, none⟩)) w := faR_of (ft := 34) (s2 := 1) (TI.mk' (sz := 20) (by_ := 192) (z := Value.agg #[Value.int IntKind.i64 0, Value.pointer none, Value.slice none 0 0, Value.slice none 0 0, Value.pointer none, Value.pointer none, Value.pointer none, Value.pointer none, Value.pointer none, Value.pointer none, Value.pointer none, Value.pointer none, Value.int IntKind.i64 0, Value.int IntKind.i64 0, Value.int IntKind.i64 0, Value.int IntKind.i64 0, Value.int IntKind.i64 0, Value.int IntKind.i64 0, Value.int IntKind.i64 0, Value.int IntKind.i64 0]) Try.underlying120 (by kernel_rfl)) rfl T34 (by decide)
theorem T118 : TI Try.prog 118 (TypeDesc.array 8 117) 8 64 (Value.agg #[Value.pointer none, Value.pointer none, Value.pointer none, Value.pointer none, Value.pointer none, Value.pointer none, Value.pointer none, Value.pointer none]) := TI.mk' Try.underlying118 (by kernel_rfl)
theorem fa120_4 : faR Try.prog 120 (.pointer (some ⟨b, o, none⟩)) 4 w = .ok (.pointer (some ⟨b, o + 4, none⟩)) w := faR_of (ft := 118) (s2 := 8) (TI.mk' (sz := 20) (by_ := 192) (z := Value.agg #[Value.int IntKind.i64 0, Value.pointer none, Value.slice none 0 0, Value.slice none 0 0, Value.pointer none, Value.pointer none, Value.pointer none, Value.pointer none, Value.pointer none, Value.pointer none, Value.pointer none, Value.pointer none, Value.int IntKind.i64 0, Value.int IntKind.i64 0, Value.int IntKind.i64 0, Value.int IntKind.i64 0, Value.int IntKind.i64 0, Value.int IntKind.i64 0, Value.int IntKind.i64 0, Value.int IntKind.i64 0]) Try.underlying120 (by kernel_rfl)) rfl T118 (by decide)
theorem fa120_5 : faR Try.prog 120 (.pointer (some ⟨b, o, none⟩)) 5 w = .ok (.pointer (some ⟨b, o + 12, none⟩)) w := faR_of (ft := 36) (s2 := 8) (TI.mk' (sz := 20) (by_ := 192) (z := Value.agg #[Value.int IntKind.i64 0, Value.pointer none, Value.slice none 0 0, Value.slice none 0 0, Value.pointer none, Value.pointer none, Value.pointer none, Value.pointer none, Value.pointer none, Value.pointer none, Value.pointer none, Value.pointer none, Value.int IntKind.i64 0, Value.int IntKind.i64 0, Value.int IntKind.i64 0, Value.int IntKind.i64 0, Value.int IntKind.i64 0, Value.int IntKind.i64 0, Value.int IntKind.i64 0, Value.int IntKind.i64 0]) Try.underlying120 (by kernel_rfl)) rfl T36 (by decide)
theorem T122 : TI Try.prog 122 (TypeDesc.pointer 169) 1 8 (Value.pointer none) := TI.mk' Try.underlying122 (by kernel_rfl)
theorem fa124_0 : faR Try.prog 124 (.pointer (some ⟨b, o, none⟩)) 0 w = .ok (.pointer (some ⟨b, o + 0, none⟩)) w := faR_of (ft := 122) (s2 := 1) (TI.mk' (sz := 10) (by_ := 96) (z := Value.agg #[Value.pointer none, Value.slice none 0 0, Value.int IntKind.i64 0, Value.int IntKind.i64 0, Value.int IntKind.i64 0, Value.int IntKind.i64 0, Value.int IntKind.i64 0, Value.int IntKind.i64 0, Value.int IntKind.i64 0, Value.int IntKind.i64 0]) Try.underlying124 (by kernel_rfl)) rfl T122 (by decide)
theorem fa124_1 : faR Try.prog 124 (.pointer (some ⟨b, o, none⟩)) 1 w = .ok (.pointer (some ⟨b, o + 1, none⟩)) w := faR_of (ft := 116) (s2 := 1) (TI.mk' (sz := 10) (by_ := 96) (z := Value.agg #[Value.pointer none, Value.slice none 0 0, Value.int IntKind.i64 0, Value.int IntKind.i64 0, Value.int IntKind.i64 0, Value.int IntKind.i64 0, Value.int IntKind.i64 0, Value.int IntKind.i64 0, Value.int IntKind.i64 0, Value.int IntKind.i64 0]) Try.underlying124 (by kernel_rfl)) rfl T116 (by decide)
theorem fa124_2 : faR Try.prog 124 (.pointer (some ⟨b, o, none⟩)) 2 w = .ok (.pointer (some ⟨b, o + 2, none⟩)) w := faR_of (ft := 36) (s2 := 8) (TI.mk' (sz := 10) (by_ := 96) (z := Value.agg #[Value.pointer none, Value.slice none 0 0, Value.int IntKind.i64 0, Value.int IntKind.i64 0, Value.int IntKind.i64 0, Value.int IntKind.i64 0, Value.int IntKind.i64 0, Value.int IntKind.i64 0, Value.int IntKind.i64 0, Value.int IntKind.i64 0]) Try.underlying124 (by kernel_rfl)) rfl T36 (by decide)
theorem T132 : TI Try.prog 132 (TypeDesc.map 182 3) 1 8 (Value.map none) := TI.mk' Try.underlying132 (by kernel_rfl)
theorem fa134_0 : faR Try.prog 134 (.pointer (some ⟨b, o, none⟩)) 0 w = .ok (.pointer (some ⟨b, o + 0, none⟩)) w := faR_of (ft := 132) (s2 := 1) (TI.mk' (sz := 1) (by_ := 8) (z := Value.agg #[Value.map none]) Try.underlying134 (by kernel_rfl)) rfl T132 (by decide)
theorem fa139_0 : faR Try.prog 139 (.pointer (some ⟨b, o, none⟩)) 0 w = .ok (.pointer (some ⟨b, o + 0, none⟩)) w := faR_of (ft := 24) (s2 := 1) (TI.mk' (sz := 2) (by_ := 16) (z := Value.agg #[Value.pointer none, Value.map none]) Try.underlying139 (by kernel_rfl)) rfl T24 (by decide)
theorem T137 : TI Try.prog 137 (TypeDesc.map 54 3) 1 8 (Value.map none) := TI.mk' Try.underlying137 (by kernel_rfl)
theorem fa139_1 : faR Try.prog 139 (.pointer (some ⟨b, o, none⟩)) 1 w = .ok (.pointer (some ⟨b, o + 1, none⟩)) w := faR_of (ft := 137) (s2 := 1) (TI.mk' (sz := 2) (by_ := 16) (z := Value.agg #[Value.pointer none, Value.map none]) Try.underlying139 (by kernel_rfl)) rfl T137 (by decide)
theorem fa152_0 : faR Try.prog 152 (.pointer (some ⟨b, o, none⟩)) 0 w = .ok (.pointer (some ⟨b, o + 0, none⟩)) w := faR_of (ft := 24) (s2 := 1) (TI.mk' (sz := 4) (by_ := 32) (z := Value.agg #[Value.pointer none, Value.int IntKind.i64 0, Value.bool false, Value.map none]) Try.underlying152 (by kernel_rfl)) rfl T24 (by decide)
theorem fa152_1 : faR Try.prog 152 (.pointer (some ⟨b, o, none⟩)) 1 w = .ok (.pointer (some ⟨b, o + 1, none⟩)) w := faR_of (ft := 3) (s2 := 1) (TI.mk' (sz := 4) (by_ := 32) (z := Value.agg #[Value.pointer none, Value.int IntKind.i64 0, Value.bool false, Value.map none]) Try.underlying152 (by kernel_rfl)) rfl T3 (by decide)
theorem fa152_2 : faR Try.prog 152 (.pointer (some ⟨b, o, none⟩)) 2 w = .ok (.pointer (some ⟨b, o + 2, none⟩)) w := faR_of (ft := 4) (s2 := 1) (TI.mk' (sz := 4) (by_ := 32) (z := Value.agg #[Value.pointer none, Value.int IntKind.i64 0, Value.bool false, Value.map none]) Try.underlying152 (by kernel_rfl)) rfl T4 (by decide)
theorem T150 : TI Try.prog 150 (TypeDesc.map 3 3) 1 8 (Value.map none) := TI.mk' Try.underlying150 (by kernel_rfl)
theorem fa152_3 : faR Try.prog 152 (.pointer (some ⟨b, o, none⟩)) 3 w = .ok (.pointer (some ⟨b, o + 3, none⟩)) w := faR_of (ft := 150) (s2 := 1) (TI.mk' (sz := 4) (by_ := 32) (z := Value.agg #[Value.pointer none, Value.int IntKind.i64 0, Value.bool false, Value.map none]) Try.underlying152 (by kernel_rfl)) rfl T150 (by decide)
theorem fa161_0 : faR Try.prog 161 (.pointer (some ⟨b, o, none⟩)) 0 w = .ok (.pointer (some ⟨b, o + 0, none⟩)) w := faR_of (ft := 24) (s2 := 1) (TI.mk' (sz := 6) (by_ := 64) (z := Value.agg #[Value.pointer none, Value.slice none 0 0, Value.int IntKind.i64 0, Value.int IntKind.i64 0, Value.int IntKind.i64 0, Value.int IntKind.i64 0]) Try.underlying161 (by kernel_rfl)) rfl T24 (by decide)
theorem fa161_1 : faR Try.prog 161 (.pointer (some ⟨b, o, none⟩)) 1 w = .ok (.pointer (some ⟨b, o + 1, none⟩)) w := faR_of (ft := 34) (s2 := 1) (TI.mk' (sz := 6) (by_ := 64) (z := Value.agg #[Value.pointer none, Value.slice none 0 0, Value.int IntKind.i64 0, Value.int IntKind.i64 0, Value.int IntKind.i64 0, Value.int IntKind.i64 0]) Try.underlying161 (by kernel_rfl)) rfl T34 (by decide)
theorem fa161_2 : faR Try.prog 161 (.pointer (some ⟨b, o, none⟩)) 2 w = .ok (.pointer (some ⟨b, o + 2, none⟩)) w := faR_of (ft := 3) (s2 := 1) (TI.mk' (sz := 6) (by_ := 64) (z := Value.agg #[Value.pointer none, Value.slice none 0 0, Value.int IntKind.i64 0, Value.int IntKind.i64 0, Value.int IntKind.i64 0, Value.int IntKind.i64 0]) Try.underlying161 (by kernel_rfl)) rfl T3 (by decide)
theorem fa161_3 : faR Try.prog 161 (.pointer (some ⟨b, o, none⟩)) 3 w = .ok (.pointer (some ⟨b, o + 3, none⟩)) w := faR_of (ft := 3) (s2 := 1) (TI.mk' (sz := 6) (by_ := 64) (z := Value.agg #[Value.pointer none, Value.slice none 0 0, Value.int IntKind.i64 0, Value.int IntKind.i64 0, Value.int IntKind.i64 0, Value.int IntKind.i64 0]) Try.underlying161 (by kernel_rfl)) rfl T3 (by decide)
theorem fa161_4 : faR Try.prog 161 (.pointer (some ⟨b, o, none⟩)) 4 w = .ok (.pointer (some ⟨b, o + 4, none⟩)) w := faR_of (ft := 3) (s2 := 1) (TI.mk' (sz := 6) (by_ := 64) (z := Value.agg #[Value.pointer none, Value.slice none 0 0, Value.int IntKind.i64 0, Value.int IntKind.i64 0, Value.int IntKind.i64 0, Value.int IntKind.i64 0]) Try.underlying161 (by kernel_rfl)) rfl T3 (by decide)
theorem fa161_5 : faR Try.prog 161 (.pointer (some ⟨b, o, none⟩)) 5 w = .ok (.pointer (some ⟨b, o + 5, none⟩)) w := faR_of (ft := 3) (s2 := 1) (TI.mk' (sz := 6) (by_ := 64) (z := Value.agg #[Value.pointer none, Value.slice none 0 0, Value.int IntKind.i64 0, Value.int IntKind.i64 0, Value.int IntKind.i64 0, Value.int IntKind.i64 0]) Try.underlying161 (by kernel_rfl)) rfl T3 (by decide)
theorem fa169_0 : faR Try.prog 169 (.pointer (some ⟨b, o, none⟩)) 0 w = .ok (.pointer (some ⟨b, o + 0, none⟩)) w := faR_of (ft := 3) (s2 := 1) (TI.mk' (sz := 4) (by_ := 64) (z := Value.agg #[Value.int IntKind.i64 0, Value.slice none 0 0, Value.slice none 0 0, Value.int IntKind.i64 0]) Try.underlying169 (by kernel_rfl)) rfl T3 (by decide)
theorem fa169_1 : faR Try.prog 169 (.pointer (some ⟨b, o, none⟩)) 1 w = .ok (.pointer (some ⟨b, o + 1, none⟩)) w := faR_of (ft := 34) (s2 := 1) (TI.mk' (sz := 4) (by_ := 64) (z := Value.agg #[Value.int IntKind.i64 0, Value.slice none 0 0, Value.slice none 0 0, Value.int IntKind.i64 0]) Try.underlying169 (by kernel_rfl)) rfl T34 (by decide)
theorem fa169_2 : faR Try.prog 169 (.pointer (some ⟨b, o, none⟩)) 2 w = .ok (.pointer (some ⟨b, o + 2, none⟩)) w := faR_of (ft := 34) (s2 := 1) (TI.mk' (sz := 4) (by_ := 64) (z := Value.agg #[Value.int IntKind.i64 0, Value.slice none 0 0, Value.slice none 0 0, Value.int IntKind.i64 0]) Try.underlying169 (by kernel_rfl)) rfl T34 (by decide)
theorem fa169_3 : faR Try.prog 169 (.pointer (some ⟨b, o, none⟩)) 3 w = .ok (.pointer (some ⟨b, o + 3, none⟩)) w := faR_of (ft := 3) (s2 := 1) (TI.mk' (sz := 4) (by_ := 64) (z := Value.agg #[Value.int IntKind.i64 0, Value.slice none 0 0, Value.slice none 0 0, Value.int IntKind.i64 0]) Try.underlying169 (by kernel_rfl)) rfl T3 (by decide)
theorem fa171_0 : faR Try.prog 171 (.pointer (some ⟨b, o, none⟩)) 0 w = .ok (.pointer (some ⟨b, o + 0, none⟩)) w := faR_of (ft := 3) (s2 := 1) (TI.mk' (sz := 3) (by_ := 56) (z := Value.agg #[Value.int IntKind.i64 0, Value.slice none 0 0, Value.slice none 0 0]) Try.underlying171 (by kernel_rfl)) rfl T3 (by decide)
theorem fa171_1 : faR Try.prog 171 (.pointer (some ⟨b, o, none⟩)) 1 w = .ok (.pointer (some ⟨b, o + 1, none⟩)) w := faR_of (ft := 44) (s2 := 1) (TI.mk' (sz := 3) (by_ := 56) (z := Value.agg #[Value.int IntKind.i64 0, Value.slice none 0 0, Value.slice none 0 0]) Try.underlying171 (by kernel_rfl)) rfl T44 (by decide)
theorem fa171_2 : faR Try.prog 171 (.pointer (some ⟨b, o, none⟩)) 2 w = .ok (.pointer (some ⟨b, o + 2, none⟩)) w := faR_of (ft := 34) (s2 := 1) (TI.mk' (sz := 3) (by_ := 56) (z := Value.agg #[Value.int IntKind.i64 0, Value.slice none 0 0, Value.slice none 0 0]) Try.underlying171 (by kernel_rfl)) rfl T34 (by decide)
theorem fa174_0 : faR Try.prog 174 (.pointer (some ⟨b, o, none⟩)) 0 w = .ok (.pointer (some ⟨b, o + 0, none⟩)) w := faR_of (ft := 172) (s2 := 1) (TI.mk' (sz := 2) (by_ := 32) (z := Value.agg #[Value.slice none 0 0, Value.int IntKind.i64 0]) Try.underlying174 (by kernel_rfl)) rfl T172 (by decide)
theorem fa174_1 : faR Try.prog 174 (.pointer (some ⟨b, o, none⟩)) 1 w = .ok (.pointer (some ⟨b, o + 1, none⟩)) w := faR_of (ft := 3) (s2 := 1) (TI.mk' (sz := 2) (by_ := 32) (z := Value.agg #[Value.slice none 0 0, Value.int IntKind.i64 0]) Try.underlying174 (by kernel_rfl)) rfl T3 (by decide)
theorem fa189_0 : faR Try.prog 189 (.pointer (some ⟨b, o, none⟩)) 0 w = .ok (.pointer (some ⟨b, o + 0, none⟩)) w := faR_of (ft := 3) (s2 := 1) (TI.mk' (sz := 2) (by_ := 16) (z := Value.agg #[Value.int IntKind.i64 0, Value.int IntKind.i64 0]) Try.underlying189 (by kernel_rfl)) rfl T3 (by decide)
theorem fa189_1 : faR Try.prog 189 (.pointer (some ⟨b, o, none⟩)) 1 w = .ok (.pointer (some ⟨b, o + 1, none⟩)) w := faR_of (ft := 3) (s2 := 1) (TI.mk' (sz := 2) (by_ := 16) (z := Value.agg #[Value.int IntKind.i64 0, Value.int IntKind.i64 0]) Try.underlying189 (by kernel_rfl)) rfl T3 (by decide)
theorem fa191_0 : faR Try.prog 191 (.pointer (some ⟨b, o, none⟩)) 0 w = .ok (.pointer (some ⟨b, o + 0, none⟩)) w := faR_of (ft := 189) (s2 := 2) (TI.mk' (sz := 4) (by_ := 32) (z := Value.agg #[Value.int IntKind.i64 0, Value.int IntKind.i64 0, Value.int IntKind.i64 0, Value.bool false]) Try.underlying191 (by kernel_rfl)) rfl (TI.mk' (sz := 2) (by_ := 16) (z := Value.agg #[Value.int IntKind.i64 0, Value.int IntKind.i64 0]) Try.underlying189 (by kernel_rfl)) (by decide)
theorem fa191_1 : faR Try.prog 191 (.pointer (some ⟨b, o, none⟩)) 1 w = .ok (.pointer (some ⟨b, o + 2, none⟩)) w := faR_of (ft := 3) (s2 := 1) (TI.mk' (sz := 4) (by_ := 32) (z := Value.agg #[Value.int IntKind.i64 0, Value.int IntKind.i64 0, Value.int IntKind.i64 0, Value.bool false]) Try.underlying191 (by kernel_rfl)) rfl T3 (by decide)
theorem fa191_2 : faR Try.prog 191 (.pointer (some ⟨b, o, none⟩)) 2 w = .ok (.pointer (some ⟨b, o + 3, none⟩)) w := faR_of (ft := 4) (s2 := 1) (TI.mk' (sz := 4) (by_ := 32) (z := Value.agg #[Value.int IntKind.i64 0, Value.int IntKind.i64 0, Value.int IntKind.i64 0, Value.bool false]) Try.underlying191 (by kernel_rfl)) rfl T4 (by decide)
theorem fa31_0 : faR Try.prog 31 (.pointer (some ⟨b, o, none⟩)) 0 w = .ok (.pointer (some ⟨b, o + 0, none⟩)) w := faR_of (ft := 3) (s2 := 1) (TI.mk' (sz := 5) (by_ := 40) (z := Value.agg #[Value.int IntKind.i64 0, Value.int IntKind.i64 0, Value.int IntKind.i64 0, Value.int IntKind.i64 0, Value.bool false]) Try.underlying31 (by kernel_rfl)) rfl T3 (by decide)
theorem fa31_1 : faR Try.prog 31 (.pointer (some ⟨b, o, none⟩)) 1 w = .ok (.pointer (some ⟨b, o + 1, none⟩)) w := faR_of (ft := 3) (s2 := 1) (TI.mk' (sz := 5) (by_ := 40) (z := Value.agg #[Value.int IntKind.i64 0, Value.int IntKind.i64 0, Value.int IntKind.i64 0, Value.int IntKind.i64 0, Value.bool false]) Try.underlying31 (by kernel_rfl)) rfl T3 (by decide)
theorem fa31_2 : faR Try.prog 31 (.pointer (some ⟨b, o, none⟩)) 2 w = .ok (.pointer (some ⟨b, o + 2, none⟩)) w := faR_of (ft := 3) (s2 := 1) (TI.mk' (sz := 5) (by_ := 40) (z := Value.agg #[Value.int IntKind.i64 0, Value.int IntKind.i64 0, Value.int IntKind.i64 0, Value.int IntKind.i64 0, Value.bool false]) Try.underlying31 (by kernel_rfl)) rfl T3 (by decide)
theorem fa31_3 : faR Try.prog 31 (.pointer (some ⟨b, o, none⟩)) 3 w = .ok (.pointer (some ⟨b, o + 3, none⟩)) w := faR_of (ft := 3) (s2 := 1) (TI.mk' (sz := 5) (by_ := 40) (z := Value.agg #[Value.int IntKind.i64 0, Value.int IntKind.i64 0, Value.int IntKind.i64 0, Value.int IntKind.i64 0, Value.bool false]) Try.underlying31 (by kernel_rfl)) rfl T3 (by decide)
theorem fa31_4 : faR Try.prog 31 (.pointer (some ⟨b, o, none⟩)) 4 w = .ok (.pointer (some ⟨b, o + 4, none⟩)) w := faR_of (ft := 4) (s2 := 1) (TI.mk' (sz := 5) (by_ := 40) (z := Value.agg #[Value.int IntKind.i64 0, Value.int IntKind.i64 0, Value.int IntKind.i64 0, Value.int IntKind.i64 0, Value.bool false]) Try.underlying31 (by kernel_rfl)) rfl T4 (by decide)
theorem fa39_0 : faR Try.prog 39 (.pointer (some ⟨b, o, none⟩)) 0 w = .ok (.pointer (some ⟨b, o + 0, none⟩)) w := faR_of (ft := 3) (s2 := 1) (TI.mk' (sz := 3) (by_ := 24) (z := Value.agg #[Value.int IntKind.i64 0, Value.int IntKind.i64 0, Value.int IntKind.i64 0]) Try.underlying39 (by kernel_rfl)) rfl T3 (by decide)
theorem fa39_1 : faR Try.prog 39 (.pointer (some ⟨b, o, none⟩)) 1 w = .ok (.pointer (some ⟨b, o + 1, none⟩)) w := faR_of (ft := 3) (s2 := 1) (TI.mk' (sz := 3) (by_ := 24) (z := Value.agg #[Value.int IntKind.i64 0, Value.int IntKind.i64 0, Value.int IntKind.i64 0]) Try.underlying39 (by kernel_rfl)) rfl T3 (by decide)
theorem fa39_2 : faR Try.prog 39 (.pointer (some ⟨b, o, none⟩)) 2 w = .ok (.pointer (some ⟨b, o + 2, none⟩)) w := faR_of (ft := 3) (s2 := 1) (TI.mk' (sz := 3) (by_ := 24) (z := Value.agg #[Value.int IntKind.i64 0, Value.int IntKind.i64 0, Value.int IntKind.i64 0]) Try.underlying39 (by kernel_rfl)) rfl T3 (by decide)
theorem fa79_0 : faR Try.prog 79 (.pointer (some ⟨b, o, none⟩)) 0 w = .ok (.pointer (some ⟨b, o + 0, none⟩)) w := faR_of (ft := 3) (s2 := 1) (TI.mk' (sz := 5) (by_ := 40) (z := Value.agg #[Value.int IntKind.i64 0, Value.int IntKind.i64 0, Value.int IntKind.i64 0, Value.int IntKind.i64 0, Value.bool false]) Try.underlying79 (by kernel_rfl)) rfl T3 (by decide)
theorem fa79_1 : faR Try.prog 79 (.pointer (some ⟨b, o, none⟩)) 1 w = .ok (.pointer (some ⟨b, o + 1, none⟩)) w := faR_of (ft := 3) (s2 := 1) (TI.mk' (sz := 5) (by_ := 40) (z := Value.agg #[Value.int IntKind.i64 0, Value.int IntKind.i64 0, Value.int IntKind.i64 0, Value.int IntKind.i64 0, Value.bool false]) Try.underlying79 (by kernel_rfl)) rfl T3 (by decide)
theorem fa79_2 : faR Try.prog 79 (.pointer (some ⟨b, o, none⟩)) 2 w = .ok (.pointer (some ⟨b, o + 2, none⟩)) w := faR_of (ft := 3) (s2 := 1) (TI.mk' (sz := 5) (by_ := 40) (z := Value.agg #[Value.int IntKind.i64 0, Value.int IntKind.i64 0, Value.int IntKind.i64 0, Value.int IntKind.i64 0, Value.bool false]) Try.underlying79 (by kernel_rfl)) rfl T3 (by decide)
theorem fa79_3 : faR Try.prog 79 (.pointer (some ⟨b, o, none⟩)) 3 w = .ok (.pointer (some ⟨b, o + 3, none⟩)) w := faR_of (ft := 3) (s2 := 1) (TI.mk' (sz := 5) (by_ := 40) (z := Value.agg #[Value.int IntKind.i64 0, Value.int IntKind.i64 0, Value.int IntKind.i64 0, Value.int IntKind.i64 0, Value.bool false]) Try.underlying79 (by kernel_rfl)) rfl T3 (by decide)
theorem fa79_4 : faR Try.prog 79 (.pointer (some ⟨b, o, none⟩)) 4 w = .ok (.pointer (some ⟨b, o + 4, none⟩)) w := faR_of (ft := 4) (s2 := 1) (TI.mk' (sz := 5) (by_ := 40) (z := Value.agg #[Value.int IntKind.i64 0, Value.int IntKind.i64 0, Value.int IntKind.i64 0, Value.int IntKind.i64 0, Value.bool false]) Try.underlying79 (by kernel_rfl)) rfl T4 (by decide)
theorem fa91_0 : faR Try.prog 91 (.pointer (some ⟨b, o, none⟩)) 0 w = .ok (.pointer (some ⟨b, o + 0, none⟩)) w := faR_of (ft := 3) (s2 := 1) (TI.mk' (sz := 6) (by_ := 40) (z := Value.agg #[Value.int IntKind.i64 0, Value.int IntKind.i64 0, Value.int IntKind.i64 0, Value.int IntKind.i64 0, Value.bool false, Value.bool false]) Try.underlying91 (by kernel_rfl)) rfl T3 (by decide)
theorem fa91_1 : faR Try.prog 91 (.pointer (some ⟨b, o, none⟩)) 1 w = .ok (.pointer (some ⟨b, o + 1, none⟩)) w := faR_of (ft := 3) (s2 := 1) (TI.mk' (sz := 6) (by_ := 40) (z := Value.agg #[Value.int IntKind.i64 0, Value.int IntKind.i64 0, Value.int IntKind.i64 0, Value.int IntKind.i64 0, Value.bool false, Value.bool false]) Try.underlying91 (by kernel_rfl)) rfl T3 (by decide)
theorem fa91_2 : faR Try.prog 91 (.pointer (some ⟨b, o, none⟩)) 2 w = .ok (.pointer (some ⟨b, o + 2, none⟩)) w := faR_of (ft := 3) (s2 := 1) (TI.mk' (sz := 6) (by_ := 40) (z := Value.agg #[Value.int IntKind.i64 0, Value.int IntKind.i64 0, Value.int IntKind.i64 0, Value.int IntKind.i64 0, Value.bool false, Value.bool false]) Try.underlying91 (by kernel_rfl)) rfl T3 (by decide)
theorem fa91_3 : faR Try.prog 91 (.pointer (some ⟨b, o, none⟩)) 3 w = .ok (.pointer (some ⟨b, o + 3, none⟩)) w := faR_of (ft := 3) (s2 := 1) (TI.mk' (sz := 6) (by_ := 40) (z := Value.agg #[Value.int IntKind.i64 0, Value.int IntKind.i64 0, Value.int IntKind.i64 0, Value.int IntKind.i64 0, Value.bool false, Value.bool false]) Try.underlying91 (by kernel_rfl)) rfl T3 (by decide)
theorem fa91_4 : faR Try.prog 91 (.pointer (some ⟨b, o, none⟩)) 4 w = .ok (.pointer (some ⟨b, o + 4, none⟩)) w := faR_of (ft := 4) (s2 := 1) (TI.mk' (sz := 6) (by_ := 40) (z := Value.agg #[Value.int IntKind.i64 0, Value.int IntKind.i64 0, Value.int IntKind.i64 0, Value.int IntKind.i64 0, Value.bool false, Value.bool false]) Try.underlying91 (by kernel_rfl)) rfl T4 (by decide)
theorem fa91_5 : faR Try.prog 91 (.pointer (some ⟨b, o, none⟩)) 5 w = .ok (.pointer (some ⟨b, o + 5, none⟩)) w := faR_of (ft := 4) (s2 := 1) (TI.mk' (sz := 6) (by_ := 40) (z := Value.agg #[Value.int IntKind.i64 0, Value.int IntKind.i64 0, Value.int IntKind.i64 0, Value.int IntKind.i64 0, Value.bool false, Value.bool false]) Try.underlying91 (by kernel_rfl)) rfl T4 (by decide)
theorem ix205 (h0 : 0 ≤ i) (h1 : i < 6) : iR Try.prog 205 (.agg cs) (.int k i) w = opt1 "part: no such cell" w (cs[i.toNat * 1]?) := iR_opt T205 T52 rfl h0 h1
theorem ix36 (h0 : 0 ≤ i) (h1 : i < 8) : iR Try.prog 36 (.agg cs) (.int k i) w = opt1 "part: no such cell" w (cs[i.toNat * 1]?) := iR_opt T36 T3 rfl h0 h1
theorem ix54 (h0 : 0 ≤ i) (h1 : i < 4) : iR Try.prog 54 (.agg cs) (.int k i) w = opt1 "part: no such cell" w (cs[i.toNat * 1]?) := iR_opt T54 T52 rfl h0 h1
theorem ia116 (h0 : 0 ≤ i) (h1 : i < n) : iaR Try.prog 116 (.slice (some ⟨b, o, none⟩) n cp) (.int k i) w = .ok (.pointer (some ⟨b, o + i.toNat * 3, none⟩)) w := iaR_slice T116 (TI.mk' (sz := 3) (by_ := 24) (z := Value.agg #[Value.int IntKind.i64 0, Value.int IntKind.i64 0, Value.int IntKind.i64 0]) Try.underlying39 (by kernel_rfl)) h0 h1
theorem T117 : TI Try.prog 117 (TypeDesc.pointer 174) 1 8 (Value.pointer none) := TI.mk' Try.underlying117 (by kernel_rfl)
theorem ia118 (h0 : 0 ≤ i) (h1 : i < 8) : iaR Try.prog 118 (.pointer (some ⟨b, o, none⟩)) (.int k i) w = .ok (.pointer (some ⟨b, o + i.toNat * 1, none⟩)) w := iaR_array T118 T117 h0 h1
theorem ia172 (h0 : 0 ≤ i) (h1 : i < n) : iaR Try.prog 172 (.slice (some ⟨b, o, none⟩) n cp) (.int k i) w = .ok (.pointer (some ⟨b, o + i.toNat * 4, none⟩)) w := iaR_slice T172 (TI.mk' (sz := 4) (by_ := 32) (z := Value.agg #[Value.int IntKind.i64 0, Value.int IntKind.i64 0, Value.int IntKind.i64 0, Value.bool false]) Try.underlying191 (by kernel_rfl)) h0 h1
theorem ia184 (h0 : 0 ≤ i) (h1 : i < 2) : iaR Try.prog 184 (.pointer (some ⟨b, o, none⟩)) (.int k i) w = .ok (.pointer (some ⟨b, o + i.toNat * 1, none⟩)) w := iaR_array T184 T3 h0 h1
theorem ia22 (h0 : 0 ≤ i) (h1 : i < n) : iaR Try.prog 22 (.slice (some ⟨b, o, none⟩) n cp) (.int k i) w = .ok (.pointer (some ⟨b, o + i.toNat * 5, none⟩)) w := iaR_slice T22 (TI.mk' (sz := 5) (by_ := 40) (z := Value.agg #[Value.int IntKind.i64 0, Value.int IntKind.i64 0, Value.int IntKind.i64 0, Value.int IntKind.i64 0, Value.bool false]) Try.underlying31 (by kernel_rfl)) h0 h1
theorem ia34 (h0 : 0 ≤ i) (h1 : i < n) : iaR Try.prog 34 (.slice (some ⟨b, o, none⟩) n cp) (.int k i) w = .ok (.pointer (some ⟨b, o + i.toNat * 1, none⟩)) w := iaR_slice T34 T3 h0 h1
theorem ia36 (h0 : 0 ≤ i) (h1 : i < 8) : iaR Try.prog 36 (.pointer (some ⟨b, o, none⟩)) (.int k i) w = .ok (.pointer (some ⟨b, o + i.toNat * 1, none⟩)) w := iaR_array T36 T3 h0 h1
theorem ia44 (h0 : 0 ≤ i) (h1 : i < n) : iaR Try.prog 44 (.slice (some ⟨b, o, none⟩) n cp) (.int k i) w = .ok (.pointer (some ⟨b, o + i.toNat * 1, none⟩)) w := iaR_slice T44 T4 h0 h1
theorem ia54 (h0 : 0 ≤ i) (h1 : i < 4) : iaR Try.prog 54 (.pointer (some ⟨b, o, none⟩)) (.int k i) w = .ok (.pointer (some ⟨b, o + i.toNat * 1, none⟩)) w := iaR_array T54 T52 h0 h1
theorem ia65 (h0 : 0 ≤ i) (h1 : i < n) : iaR Try.prog 65 (.slice (some ⟨b, o, none⟩) n cp) (.int k i) w = .ok (.pointer (some ⟨b, o + i.toNat * 4, none⟩)) w := iaR_slice T65 T54 h0 h1
theorem ia77 (h0 : 0 ≤ i) (h1 : i < n) : iaR Try.prog 77 (.slice (some ⟨b, o, none⟩) n cp) (.int k i) w = .ok (.pointer (some ⟨b, o + i.toNat * 5, none⟩)) w := iaR_slice T77 (TI.mk' (sz := 5) (by_ := 40) (z := Value.agg #[Value.int IntKind.i64 0, Value.int IntKind.i64 0, Value.int IntKind.i64 0, Value.int IntKind.i64 0, Value.bool false]) Try.underlying79 (by kernel_rfl)) h0 h1
theorem ia89 (h0 : 0 ≤ i) (h1 : i < n) : iaR Try.prog 89 (.slice (some ⟨b, o, none⟩) n cp) (.int k i) w = .ok (.pointer (some ⟨b, o + i.toNat * 6, none⟩)) w := iaR_slice T89 (TI.mk' (sz := 6) (by_ := 40) (z := Value.agg #[Value.int IntKind.i64 0, Value.int IntKind.i64 0, Value.int IntKind.i64 0, Value.int IntKind.i64 0, Value.bool false, Value.bool false]) Try.underlying91 (by kernel_rfl)) h0 h1
theorem ld114 : ldR Try.prog 114 (.pointer (some ⟨b, o, none⟩)) w = ld1 Try.prog b o w (rd1 (w.heap[b]?) o) := ldR_one T114 rfl
theorem ld116 : ldR Try.prog 116 (.pointer (some ⟨b, o, none⟩)) w = ld1 Try.prog b o w (rd1 (w.heap[b]?) o) := ldR_one T116 rfl
theorem ld117 : ldR Try.prog 117 (.pointer (some ⟨b, o, none⟩)) w = ld1 Try.prog b o w (rd1 (w.heap[b]?) o) := ldR_one T117 rfl
theorem ld122 : ldR Try.prog 122 (.pointer (some ⟨b, o, none⟩)) w = ld1 Try.prog b o w (rd1 (w.heap[b]?) o) := ldR_one T122 rfl
theorem ld132 : ldR Try.prog 132 (.pointer (some ⟨b, o, none⟩)) w = ld1 Try.prog b o w (rd1 (w.heap[b]?) o) := ldR_one T132 rfl
theorem ld137 : ldR Try.prog 137 (.pointer (some ⟨b, o, none⟩)) w = ld1 Try.prog b o w (rd1 (w.heap[b]?) o) := ldR_one T137 rfl
theorem ld150 : ldR Try.prog 150 (.pointer (some ⟨b, o, none⟩)) w = ld1 Try.prog b o w (rd1 (w.heap[b]?) o) := ldR_one T150 rfl
theorem ld172 : ldR Try.prog 172 (.pointer (some ⟨b, o, none⟩)) w = ld1 Try.prog b o w (rd1 (w.heap[b]?) o) := ldR_one T172 rfl
theorem ld182 : ldR Try.prog 182 (.pointer (some ⟨b, o, none⟩)) w = ldN Try.prog b o 3 w (rdN (w.heap[b]?) o 3) := ldR_agg (TI.mk' (sz := 3) (by_ := 24) (z := Value.agg #[Value.int IntKind.i64 0, Value.int IntKind.i64 0, Value.int IntKind.i64 0]) Try.underlying182 (by kernel_rfl)) rfl
theorem ld189 : ldR Try.prog 189 (.pointer (some ⟨b, o, none⟩)) w = ldN Try.prog b o 2 w (rdN (w.heap[b]?) o 2) := ldR_agg (TI.mk' (sz := 2) (by_ := 16) (z := Value.agg #[Value.int IntKind.i64 0, Value.int IntKind.i64 0]) Try.underlying189 (by kernel_rfl)) rfl
theorem ld191 : ldR Try.prog 191 (.pointer (some ⟨b, o, none⟩)) w = ldN Try.prog b o 4 w (rdN (w.heap[b]?) o 4) := ldR_agg (TI.mk' (sz := 4) (by_ := 32) (z := Value.agg #[Value.int IntKind.i64 0, Value.int IntKind.i64 0, Value.int IntKind.i64 0, Value.bool false]) Try.underlying191 (by kernel_rfl)) rfl
theorem ld206 : ldR Try.prog 206 (.pointer (some ⟨b, o, none⟩)) w = ld1 Try.prog b o w (rd1 (w.heap[b]?) o) := ldR_one T206 rfl
theorem ld24 : ldR Try.prog 24 (.pointer (some ⟨b, o, none⟩)) w = ld1 Try.prog b o w (rd1 (w.heap[b]?) o) := ldR_one T24 rfl
theorem ld3 : ldR Try.prog 3 (.pointer (some ⟨b, o, none⟩)) w = ld1 Try.prog b o w (rd1 (w.heap[b]?) o) := ldR_one T3 rfl
theorem ld31 : ldR Try.prog 31 (.pointer (some ⟨b, o, none⟩)) w = ldN Try.prog b o 5 w (rdN (w.heap[b]?) o 5) := ldR_agg (TI.mk' (sz := 5) (by_ := 40) (z := Value.agg #[Value.int IntKind.i64 0, Value.int IntKind.i64 0, Value.int IntKind.i64 0, Value.int IntKind.i64 0, Value.bool false]) Try.underlying31 (by kernel_rfl)) rfl
theorem ld34 : ldR Try.prog 34 (.pointer (some ⟨b, o, none⟩)) w = ld1 Try.prog b o w (rd1 (w.heap[b]?) o) := ldR_one T34 rfl
theorem ld36 : ldR Try.prog 36 (.pointer (some ⟨b, o, none⟩)) w = ldN Try.prog b o 8 w (rdN (w.heap[b]?) o 8) := ldR_agg T36 rfl
theorem ld39 : ldR Try.prog 39 (.pointer (some ⟨b, o, none⟩)) w = ldN Try.prog b o 3 w (rdN (w.heap[b]?) o 3) := ldR_agg (TI.mk' (sz := 3) (by_ := 24) (z := Value.agg #[Value.int IntKind.i64 0, Value.int IntKind.i64 0, Value.int IntKind.i64 0]) Try.underlying39 (by kernel_rfl)) rfl
theorem ld4 : ldR Try.prog 4 (.pointer (some ⟨b, o, none⟩)) w = ld1 Try.prog b o w (rd1 (w.heap[b]?) o) := ldR_one T4 rfl
theorem ld44 : ldR Try.prog 44 (.pointer (some ⟨b, o, none⟩)) w = ld1 Try.prog b o w (rd1 (w.heap[b]?) o) := ldR_one T44 rfl
theorem ld52 : ldR Try.prog 52 (.pointer (some ⟨b, o, none⟩)) w = ld1 Try.prog b o w (rd1 (w.heap[b]?) o) := ldR_one T52 rfl
theorem ld54 : ldR Try.prog 54 (.pointer (some ⟨b, o, none⟩)) w = ldN Try.prog b o 4 w (rdN (w.heap[b]?) o 4) := ldR_agg T54 rfl
theorem ld79 : ldR Try.prog 79 (.pointer (some ⟨b, o, none⟩)) w = ldN Try.prog b o 5 w (rdN (w.heap[b]?) o 5) := ldR_agg (TI.mk' (sz := 5) (by_ := 40) (z := Value.agg #[Value.int IntKind.i64 0, Value.int IntKind.i64 0, Value.int IntKind.i64 0, Value.int IntKind.i64 0, Value.bool false]) Try.underlying79 (by kernel_rfl)) rfl
theorem ld91 : ldR Try.prog 91 (.pointer (some ⟨b, o, none⟩)) w = ldN Try.prog b o 6 w (rdN (w.heap[b]?) o 6) := ldR_agg (TI.mk' (sz := 6) (by_ := 40) (z := Value.agg #[Value.int IntKind.i64 0, Value.int IntKind.i64 0, Value.int IntKind.i64 0, Value.int IntKind.i64 0, Value.bool false, Value.bool false]) Try.underlying91 (by kernel_rfl)) rfl
theorem mi127 : rG Try.prog (.makeInterface 127 x) ty e w = .ok (.value (.iface 127 (ev e x))) w := rG_makeInterface T127 (fun _ h => by cases h)
theorem T142 : TI Try.prog 142 (TypeDesc.map 3 54) 1 8 (Value.map none) := TI.mk' Try.underlying142 (by kernel_rfl)
theorem sl34_hi (h0 : 0 ≤ i) (h1 : i ≤ cp) : slR Try.prog 34 (.slice a n cp) none (some (.int k i)) none w = .ok (.slice a i.toNat cp) w := slR_hi T34 T3 h0 h1
theorem sl34_lo (h0 : 0 ≤ i) (h1 : i ≤ n) : slR Try.prog 34 (.slice a n cp) (some (.int k i)) none none w = .ok (.slice (cutAddr a 1 i.toNat cp) (n - i.toNat) (cp - i.toNat)) w := slR_lo T34 T3 h0 h1
theorem sl34_both (h0 : 0 ≤ i) (h1 : i ≤ j) (h2 : j ≤ cp) : slR Try.prog 34 (.slice a n cp) (some (.int k i)) (some (.int k2 j)) none w = .ok (.slice (cutAddr a 1 i.toNat cp) (j.toNat - i.toNat) (cp - i.toNat)) w := slR_both T34 T3 h0 h1 h2
theorem st116 (hn : (vcs v).length = 1) (hv : (vcs v).all isCell = true) : stR Try.prog 116 (.pointer (some ⟨b, o, none⟩)) v w = stN Try.prog b o (vcs v) w (w.heap[b]?) := stR_vcs T116 hn hv
theorem st117 (hn : (vcs v).length = 1) (hv : (vcs v).all isCell = true) : stR Try.prog 117 (.pointer (some ⟨b, o, none⟩)) v w = stN Try.prog b o (vcs v) w (w.heap[b]?) := stR_vcs T117 hn hv
theorem st172 (hn : (vcs v).length = 1) (hv : (vcs v).all isCell = true) : stR Try.prog 172 (.pointer (some ⟨b, o, none⟩)) v w = stN Try.prog b o (vcs v) w (w.heap[b]?) := stR_vcs T172 hn hv
theorem st182 (hn : (vcs v).length = 3) (hv : (vcs v).all isCell = true) : stR Try.prog 182 (.pointer (some ⟨b, o, none⟩)) v w = stN Try.prog b o (vcs v) w (w.heap[b]?) := stR_vcs (TI.mk' (sz := 3) (by_ := 24) (z := Value.agg #[Value.int IntKind.i64 0, Value.int IntKind.i64 0, Value.int IntKind.i64 0]) Try.underlying182 (by kernel_rfl)) hn hv
theorem st189 (hn : (vcs v).length = 2) (hv : (vcs v).all isCell = true) : stR Try.prog 189 (.pointer (some ⟨b, o, none⟩)) v w = stN Try.prog b o (vcs v) w (w.heap[b]?) := stR_vcs (TI.mk' (sz := 2) (by_ := 16) (z := Value.agg #[Value.int IntKind.i64 0, Value.int IntKind.i64 0]) Try.underlying189 (by kernel_rfl)) hn hv
theorem st191 (hn : (vcs v).length = 4) (hv : (vcs v).all isCell = true) : stR Try.prog 191 (.pointer (some ⟨b, o, none⟩)) v w = stN Try.prog b o (vcs v) w (w.heap[b]?) := stR_vcs (TI.mk' (sz := 4) (by_ := 32) (z := Value.agg #[Value.int IntKind.i64 0, Value.int IntKind.i64 0, Value.int IntKind.i64 0, Value.bool false]) Try.underlying191 (by kernel_rfl)) hn hv
theorem st206 (hn : (vcs v).length = 1) (hv : (vcs v).all isCell = true) : stR Try.prog 206 (.pointer (some ⟨b, o, none⟩)) v w = stN Try.prog b o (vcs v) w (w.heap[b]?) := stR_vcs T206 hn hv
theorem st3 (hn : (vcs v).length = 1) (hv : (vcs v).all isCell = true) : stR Try.prog 3 (.pointer (some ⟨b, o, none⟩)) v w = stN Try.prog b o (vcs v) w (w.heap[b]?) := stR_vcs T3 hn hv
theorem st34 (hn : (vcs v).length = 1) (hv : (vcs v).all isCell = true) : stR Try.prog 34 (.pointer (some ⟨b, o, none⟩)) v w = stN Try.prog b o (vcs v) w (w.heap[b]?) := stR_vcs T34 hn hv
theorem st36 (hn : (vcs v).length = 8) (hv : (vcs v).all isCell = true) : stR Try.prog 36 (.pointer (some ⟨b, o, none⟩)) v w = stN Try.prog b o (vcs v) w (w.heap[b]?) := stR_vcs T36 hn hv
theorem st39 (hn : (vcs v).length = 3) (hv : (vcs v).all isCell = true) : stR Try.prog 39 (.pointer (some ⟨b, o, none⟩)) v w = stN Try.prog b o (vcs v) w (w.heap[b]?) := stR_vcs (TI.mk' (sz := 3) (by_ := 24) (z := Value.agg #[Value.int IntKind.i64 0, Value.int IntKind.i64 0, Value.int IntKind.i64 0]) Try.underlying39 (by kernel_rfl)) hn hv
theorem st4 (hn : (vcs v).length = 1) (hv : (vcs v).all isCell = true) : stR Try.prog 4 (.pointer (some ⟨b, o, none⟩)) v w = stN Try.prog b o (vcs v) w (w.heap[b]?) := stR_vcs T4 hn hv
theorem st44 (hn : (vcs v).length = 1) (hv : (vcs v).all isCell = true) : stR Try.prog 44 (.pointer (some ⟨b, o, none⟩)) v w = stN Try.prog b o (vcs v) w (w.heap[b]?) := stR_vcs T44 hn hv
theorem st52 (hn : (vcs v).length = 1) (hv : (vcs v).all isCell = true) : stR Try.prog 52 (.pointer (some ⟨b, o, none⟩)) v w = stN Try.prog b o (vcs v) w (w.heap[b]?) := stR_vcs T52 hn hv
theorem st54 (hn : (vcs v).length = 4) (hv : (vcs v).all isCell = true) : stR Try.prog 54 (.pointer (some ⟨b, o, none⟩)) v w = stN Try.prog b o (vcs v) w (w.heap[b]?) := stR_vcs T54 hn hv
theorem st79 (hn : (vcs v).length = 5) (hv : (vcs v).all isCell = true) : stR Try.prog 79 (.pointer (some ⟨b, o, none⟩)) v w = stN Try.prog b o (vcs v) w (w.heap[b]?) := stR_vcs (TI.mk' (sz := 5) (by_ := 40) (z := Value.agg #[Value.int IntKind.i64 0, Value.int IntKind.i64 0, Value.int IntKind.i64 0, Value.int IntKind.i64 0, Value.bool false]) Try.underlying79 (by kernel_rfl)) hn hv
theorem st91 (hn : (vcs v).length = 6) (hv : (vcs v).all isCell = true) : stR Try.prog 91 (.pointer (some ⟨b, o, none⟩)) v w = stN Try.prog b o (vcs v) w (w.heap[b]?) := stR_vcs (TI.mk' (sz := 6) (by_ := 40) (z := Value.agg #[Value.int IntKind.i64 0, Value.int IntKind.i64 0, Value.int IntKind.i64 0, Value.int IntKind.i64 0, Value.bool false, Value.bool false]) Try.underlying91 (by kernel_rfl)) hn hv
theorem T2 : TI Try.prog 2 (TypeDesc.int IntKind.i64) 1 8 (Value.int IntKind.i64 0) := TI.mk' Try.underlying2 (by kernel_rfl)
theorem T6 : TI Try.prog 6 (TypeDesc.int IntKind.u8) 1 1 (Value.int IntKind.u8 0) := TI.mk' Try.underlying6 (by kernel_rfl)
theorem T9 : TI Try.prog 9 (TypeDesc.string) 1 16 (Value.string ⟨#[]⟩) := TI.mk' Try.underlying9 (by kernel_rfl)
theorem T10 : TI Try.prog 10 (TypeDesc.string) 1 16 (Value.string ⟨#[]⟩) := TI.mk' Try.underlying10 (by kernel_rfl)
theorem T11 : TI Try.prog 11 (TypeDesc.string) 1 16 (Value.string ⟨#[]⟩) := TI.mk' Try.underlying11 (by kernel_rfl)
theorem T12 : TI Try.prog 12 (TypeDesc.int IntKind.u64) 1 8 (Value.int IntKind.u64 0) := TI.mk' Try.underlying12 (by kernel_rfl)
theorem T21 : TI Try.prog 21 (TypeDesc.int IntKind.i32) 1 4 (Value.int IntKind.i32 0) := TI.mk' Try.underlying21 (by kernel_rfl)
theorem T53 : TI Try.prog 53 (TypeDesc.array 4 52) 4 32 (Value.agg #[Value.int IntKind.u64 0, Value.int IntKind.u64 0, Value.int IntKind.u64 0, Value.int IntKind.u64 0]) := TI.mk' Try.underlying53 (by kernel_rfl)
theorem T197 : TI Try.prog 197 (TypeDesc.int IntKind.i64) 1 8 (Value.int IntKind.i64 0) := TI.mk' Try.underlying197 (by kernel_rfl)
end
attribute [push_cast] bd120_0_1_5 bd124_0_2 bd134_0 bd139_0_1 bd152_0_1_2_3 bd161_0_1_2_3_5 bd169_0 bd171_0 bd174_0 bd182_0_1_2 bd189_0_1 bd191_ bd191_0_1_2 bd205_0_1_2_3_4_5 bd36_0_1_2_3_4_5_6_7 bd39_ bd39_0_1_2 bd54_ bs116_1 bs34_0 bs34_1 bs34_2 bs34_3 bs44_1 bs65_0 bs65_1 bs65_2 call100 call101 call102 call103 call104 call105 call106 call107 call108 call109 call110 call111 call112 call113 call114 call115 call116 call117 call118 call119 call120 call121 call122 call123 call124 call125 call126 call127 call128 call129 call130 call131 call132
attribute [push_cast] call133 call134 call136 call137 call138 call139 call140 call141 call142 call143 call144 call145 call146 call147 call148 call149 call150 call151 call152 call153 call154 call155 call156 call157 call158 call159 call160 call161 call162 call163 call164 call165 call166 call167 call168 call169 call17 call170 call171 call172 call173 call174 call175 call176 call177 call178 call179 call18 call180 call181 call19 call20 call21 call22 call23 call24 call25 call26 call27 call28
attribute [push_cast] call29 call30 call31 call32 call33 call34 call35 call36 call37 call38 call39 call40 call41 call42 call43 call44 call45 call46 call47 call48 call49 call50 call51 call52 call53 call54 call55 call56 call57 call58 call59 call60 call61 call62 call63 call64 call65 call66 call67 call68 call69 call70 call71 call72 call73 call74 call75 call76 call77 call78 call79 call80 call81 call82 call83 call84 call85 call86 call87 call88
attribute [push_cast] call89 call90 call91 call92 call93 call94 call95 call96 call97 call98 call99 ceql_ii_47_127 ceql_in_47 ceql_ni_47 ceql_nn_47 ceql_pa_114 ceql_pa_24 ceql_pa_55 ceql_pp_114 ceql_pp_24 ceql_pp_55 ceql_sa_34 ceql_ss_34 cneq_ii_47_127 cneq_in_47 cneq_ni_47 cneq_nn_47 cneq_pa_24 cneq_pa_55 cneq_pp_24 cneq_pp_55 cv126_204 cv126_3 cv204_5 cv3_126 cv3_206 cv3_52 cv52_3 cv52_5 cv5_3 eqeql_4 eqneq_4 fa120_0 fa120_1 fa120_2 fa120_3 fa120_4 fa120_5 fa124_0 fa124_1 fa124_2 fa134_0 fa139_0 fa139_1 fa152_0 fa152_1 fa152_2 fa152_3 fa161_0 fa161_1
attribute [push_cast] fa161_2 fa161_3 fa161_4 fa161_5 fa169_0 fa169_1 fa169_2 fa169_3 fa171_0 fa171_1 fa171_2 fa174_0 fa174_1 fa189_0 fa189_1 fa191_0 fa191_1 fa191_2 fa31_0 fa31_1 fa31_2 fa31_3 fa31_4 fa39_0 fa39_1 fa39_2 fa79_0 fa79_1 fa79_2 fa79_3 fa79_4 fa91_0 fa91_1 fa91_2 fa91_3 fa91_4 fa91_5 ia116 ia118 ia172 ia184 ia22 ia34 ia36 ia44 ia54 ia65 ia77 ia89 ix205 ix36 ix54 ld114 ld116 ld117 ld122 ld132 ld137 ld150 ld172
attribute [push_cast] ld182 ld189 ld191 ld206 ld24 ld3 ld31 ld34 ld36 ld39 ld4 ld44 ld52 ld54 ld79 ld91 ln116 ln172 ln22 ln34 ln44 ln65 ln77 ln89 mi127 rG_alloc_182 rG_alloc_184 rG_alloc_189 rG_alloc_191 rG_alloc_206 rG_alloc_3 rG_alloc_36 rG_alloc_39 rG_alloc_54 rG_alloc_79 rG_alloc_91 sl34_both sl34_hi sl34_lo st116 st117 st172 st182 st189 st191 st206 st3 st34 st36 st39 st4 st44 st52 st54 st79 st91
end Go.Proofs.Ytpeindhocndmnaa

/- Layer 5: open tables, in plain words: what is found, put, moved and taken out. No code is walked here. -/
namespace Go.Bx
open Go
set_option linter.unusedSimpArgs false
set_option linter.unusedVariables false

abbrev Ky := Int × Int
/-- A table's places. -/
abbrev Tb := List (Option (Ky × Int))
def occ (T : Tb) (p : Nat) : Option (Ky × Int) := (T[p]?).getD none
/-- b steps behind a, around. -/
def cyc (n a b : Nat) : Nat := if a + b < n then a + b else a + b - n

theorem occ_set {T : Tb} {p q : Nat} {y : Option (Ky × Int)} (hp : p < T.length) : occ (T.set p y) q = if q = p then y else occ T q := by
  unfold occ
  by_cases h : q = p
  · subst h; rw [List.getElem?_set_self hp, if_pos rfl]; rfl
  · rw [List.getElem?_set_ne (fun e => h e.symm), if_neg h]
theorem occ_lt {T : Tb} {p : Nat} {x : Ky × Int} (h : occ T p = some x) : p < T.length := by
  by_cases hp : p < T.length
  · exact hp
  · unfold occ at h; rw [List.getElem?_eq_none (by omega)] at h; cases h
theorem occ_get {T : Tb} {p : Nat} (h : p < T.length) : T[p]? = some (occ T p) := by
  unfold occ; rw [List.getElem?_eq_getElem h]; rfl

section
variable {n a b c d : Nat}
theorem cyc_lt (ha : a < n) (hb : b ≤ n) : cyc n a b < n := by unfold cyc; split <;> omega
theorem cyc_zero (ha : a < n) : cyc n a 0 = a := by unfold cyc; split <;> omega
theorem cyc_succ (ha : a < n) (hd : d < n) : cyc n (cyc n a d) 1 = cyc n a (d + 1) := by unfold cyc; split <;> split <;> split <;> omega
theorem cyc_inj (ha : a < n) (hc : c < n) (hd : d < n) (h : cyc n a c = cyc n a d) : c = d := by unfold cyc at h; split at h <;> split at h <;> omega
theorem cyc_sur {p : Nat} (ha : a < n) (hp : p < n) : ∃ d, d < n ∧ p = cyc n a d := by
  by_cases h : a ≤ p
  · exact ⟨p - a, by omega, by unfold cyc; split <;> omega⟩
  · exact ⟨p + n - a, by omega, by unfold cyc; split <;> omega⟩
theorem cyc_add (ha : a < n) (h : b + c < n) : cyc n (cyc n a b) c = cyc n a (b + c) := by unfold cyc; split <;> split <;> split <;> omega
end
def crd (n b h : Nat) : Nat := if b ≤ h then h - b else h + n - b
theorem crd_lt {n b h : Nat} (hb : b < n) (hh : h < n) : crd n b h < n := by unfold crd; split <;> omega
theorem cyc_crd {n b h : Nat} (hb : b < n) (hh : h < n) : cyc n b (crd n b h) = h := by unfold crd cyc; split <;> split <;> omega
theorem least {p : Nat → Prop} : ∀ (n : Nat), p n → ∃ m, m ≤ n ∧ p m ∧ ∀ j, j < m → ¬ p j := by
  intro n
  induction n using Nat.strongRecOn with
  | _ n ih =>
    intro h
    by_cases hex : ∃ j, j < n ∧ p j
    · obtain ⟨j, hj, hp⟩ := hex
      obtain ⟨m, h1, h2, h3⟩ := ih j hj hp
      exact ⟨m, by omega, h2, h3⟩
    · exact ⟨n, Nat.le_refl _, h, fun j hj hp => hex ⟨j, hj, hp⟩⟩

section
variable (H : Ky → Nat → Nat)
/-- i is the place where k stands, or would. -/
def Finds (T : Tb) (k : Ky) (i : Nat) : Prop := ∃ d, d < T.length ∧ i = cyc T.length (H k T.length) d ∧ (∀ j, j < d → ∃ x, occ T (cyc T.length (H k T.length) j) = some x ∧ x.1 ≠ k) ∧ (occ T i = none ∨ ∃ v, occ T i = some (k, v))
structure TbInv (T : Tb) : Prop where
  pos : 0 < T.length
  reach : ∀ p k v, occ T p = some (k, v) → ∃ d, d < T.length ∧ p = cyc T.length (H k T.length) d ∧ ∀ j, j < d → occ T (cyc T.length (H k T.length) j) ≠ none
  nodup : ∀ p p' k v v', occ T p = some (k, v) → occ T p' = some (k, v') → p = p'
def MemT (T : Tb) (k : Ky) (v : Int) : Prop := ∃ p, occ T p = some (k, v)
end

section
variable {H : Ky → Nat → Nat} (hH : ∀ k n, 0 < n → H k n < n) {T : Tb}
theorem Finds.uniq {k : Ky} {i i' : Nat} (h : Finds H T k i) (h' : Finds H T k i') : i = i' := by
  obtain ⟨d, hd, rfl, hp, ho⟩ := h
  obtain ⟨d', hd', rfl, hp', ho'⟩ := h'
  have key : ∀ {d d' : Nat}, (occ T (cyc T.length (H k T.length) d) = none ∨ ∃ v, occ T (cyc T.length (H k T.length) d) = some (k, v)) → (∀ j, j < d' → ∃ x, occ T (cyc T.length (H k T.length) j) = some x ∧ x.1 ≠ k) → ¬ d < d' := by
    intro d d' ho hp hlt
    obtain ⟨x, hx, hne⟩ := hp d hlt
    rcases ho with h | ⟨v, h⟩
    · rw [h] at hx; cases hx
    · rw [h] at hx; cases hx; exact hne rfl
  have h1 := key ho hp'
  have h2 := key ho' hp
  have : d = d' := by omega
  rw [this]
include hH
theorem TbInv.home (I : TbInv H T) (k : Ky) : H k T.length < T.length := hH k _ I.pos
theorem TbInv.finds_mem (I : TbInv H T) {p : Nat} {k : Ky} {v : Int} (h : occ T p = some (k, v)) : Finds H T k p := by
  have hh := I.home hH k
  obtain ⟨d, hd, he, hpath⟩ := I.reach p k v h
  refine ⟨d, hd, he, fun j hj => ?_, .inr ⟨v, h⟩⟩
  cases ho : occ T (cyc T.length (H k T.length) j) with
  | none => exact absurd ho (hpath j hj)
  | some x =>
    refine ⟨x, rfl, fun hk => ?_⟩
    obtain ⟨k', v'⟩ := x
    obtain rfl : k' = k := hk
    have := I.nodup _ _ _ _ _ ho h
    rw [he] at this
    have := cyc_inj hh (by omega) hd this
    omega
theorem TbInv.finds_none (I : TbInv H T) {i : Nat} {k : Ky} (hf : Finds H T k i) (hn : occ T i = none) : ∀ p v, occ T p ≠ some (k, v) := by
  intro p v h
  have := (I.finds_mem hH h).uniq hf
  rw [this, hn] at h; cases h
theorem TbInv.put (I : TbInv H T) {i : Nat} {k : Ky} (v : Int) (hf : Finds H T k i) (hn : occ T i = none) :
    TbInv H (T.set i (some (k, v))) ∧ ∀ k' v', MemT (T.set i (some (k, v))) k' v' ↔ MemT T k' v' ∨ (k' = k ∧ v' = v) := by
  have hh := I.home hH k
  have hno := I.finds_none hH hf hn
  obtain ⟨d, hd, rfl, hpath, _⟩ := hf
  have hi := cyc_lt hh (Nat.le_of_lt hd)
  generalize hie : cyc T.length (H k T.length) d = i at *
  have hset : ∀ q, occ (T.set i (some (k, v))) q = if q = i then some (k, v) else occ T q := fun q => occ_set hi
  have hkeep : ∀ q, occ T q ≠ none → occ (T.set i (some (k, v))) q ≠ none := by
    intro q hq
    rw [hset]; split
    · simp
    · exact hq
  refine ⟨⟨by rw [List.length_set]; exact I.pos, fun p k' v' hp => ?_, fun p p' k' v' v'' hp hp' => ?_⟩, fun k' v' => ?_⟩
  · rw [List.length_set]
    rw [hset] at hp
    split at hp
    · rename_i h
      cases hp
      subst h
      refine ⟨d, hd, hie.symm, fun j hj => hkeep _ ?_⟩
      obtain ⟨x, hx, _⟩ := hpath j hj
      rw [hx]; simp
    · obtain ⟨d', h1, h2, h3⟩ := I.reach p k' v' hp
      exact ⟨d', h1, h2, fun j hj => hkeep _ (h3 j hj)⟩
  · rw [hset] at hp hp'
    split at hp
    · cases hp
      split at hp'
      · omega
      · exact absurd hp' (hno _ _)
    · split at hp'
      · cases hp'; exact absurd hp (hno _ _)
      · exact I.nodup _ _ _ _ _ hp hp'
  · constructor
    · rintro ⟨p, hp⟩
      rw [hset] at hp
      split at hp
      · cases hp; exact .inr ⟨rfl, rfl⟩
      · exact .inl ⟨p, hp⟩
    · rintro (⟨p, hp⟩ | ⟨rfl, rfl⟩)
      · refine ⟨p, ?_⟩
        rw [hset, if_neg]
        · exact hp
        · rintro rfl; rw [hn] at hp; cases hp
      · exact ⟨i, by rw [hset, if_pos rfl]⟩

/-- With an empty place behind all: each stands behind its first place, with none empty between. -/
theorem TbInv.line (I : TbInv H T) {b : Nat} (hb : b < T.length) (hz : occ T (cyc T.length b (T.length - 1)) = none) {q : Nat} {k : Ky} {v : Int} (hq : q < T.length) (h : occ T (cyc T.length b q) = some (k, v)) :
    crd T.length b (H k T.length) ≤ q ∧ ∀ r, crd T.length b (H k T.length) ≤ r → r ≤ q → occ T (cyc T.length b r) ≠ none := by
  have hh := I.home hH k
  have hc := crd_lt hb hh
  have hcc := cyc_crd hb hh
  obtain ⟨d, hd, he, hpath⟩ := I.reach _ k v h
  generalize crd T.length b (H k T.length) = c at *
  have step : ∀ j, c + j < T.length → cyc T.length (H k T.length) j = cyc T.length b (c + j) := by
    intro j hj; rw [← hcc]; exact cyc_add hb hj
  have hcq : c ≤ q := by
    by_cases hlt : c + d < T.length
    · rw [step d hlt] at he
      have := cyc_inj hb hq hlt he
      omega
    · exfalso
      have := hpath (T.length - 1 - c) (by omega)
      rw [step _ (by omega), show c + (T.length - 1 - c) = T.length - 1 by omega] at this
      exact this hz
  have hdq : d = q - c := by
    have e2 : cyc T.length (H k T.length) (q - c) = cyc T.length b q := by rw [step _ (by omega), show c + (q - c) = q by omega]
    rw [← e2] at he
    exact (cyc_inj hh (by omega) hd he).symm
  refine ⟨hcq, fun r h1 h2 => ?_⟩
  by_cases hrq : r = q
  · subst hrq; rw [h]; simp
  · have := hpath (r - c) (by omega)
    rwa [step _ (by omega), show c + (r - c) = r by omega] at this
end

/-- What is so while those behind one that was taken out are moved. -/
structure DropInv (H : Ky → Nat → Nat) (T : Tb) (b c : Nat) : Prop where
  hb : b < T.length
  hc : c < T.length
  last : occ T (cyc T.length b (T.length - 1)) = none
  run : ∀ q, c ≤ q → q < T.length - 1 → ∃ x, occ T (cyc T.length b q) = some x ∧ crd T.length b (H x.1 T.length) ≤ q
  old : ∀ q, q < c → ∀ k v, occ T (cyc T.length b q) = some (k, v) → crd T.length b (H k T.length) ≤ q ∧ ∀ r, crd T.length b (H k T.length) ≤ r → r ≤ q → occ T (cyc T.length b r) ≠ none
  nodup : ∀ p p' k v v', occ T p = some (k, v) → occ T p' = some (k, v') → p = p'

section
variable {H : Ky → Nat → Nat} (hH : ∀ k n, 0 < n → H k n < n) {T : Tb}
include hH
theorem DropInv.start (I : TbInv H T) {i z : Nat} {x : Ky × Int} (hi : occ T i = some x) (hz : z < T.length) (hze : occ T z = none) :
    ∃ b c, DropInv H (T.set i none) b c ∧ cyc T.length i 1 = cyc T.length b c ∧ ∀ k v, MemT (T.set i none) k v ↔ (MemT T k v ∧ k ≠ x.1) := by
  have hil := occ_lt hi
  obtain ⟨t0, ht0, he0⟩ := cyc_sur hil hz
  obtain ⟨t, htle, ht, hmin⟩ := least (p := fun t => occ T (cyc T.length i t) = none) t0 (by rw [← he0]; exact hze)
  have ht1 : 1 ≤ t := by
    rcases Nat.eq_zero_or_pos t with h | h
    · subst h; rw [cyc_zero hil, hi] at ht; cases ht
    · exact h
  generalize hn : T.length = n at *
  have hbl : cyc n i (t + 1) < n := cyc_lt hil (by omega)
  have hpos : ∀ j, j ≤ t → cyc n (cyc n i (t + 1)) (n - 1 - t + j) = cyc n i j := by
    intro j hj; unfold cyc; split <;> split <;> split <;> omega
  generalize hbe : cyc n i (t + 1) = b at *
  have hset : ∀ q, occ (T.set i none) q = if q = i then none else occ T q := fun q => occ_set (by omega)
  have hpi : cyc n b (n - 1 - t) = i := by have := hpos 0 (by omega); rwa [Nat.add_zero, cyc_zero hil] at this
  have hplast : cyc n b (n - 1) = cyc n i t := by have := hpos t (Nat.le_refl _); rwa [show n - 1 - t + t = n - 1 by omega] at this
  have hline : ∀ {q : Nat} {k : Ky} {v : Int}, q < n → occ T (cyc n b q) = some (k, v) → crd n b (H k n) ≤ q ∧ ∀ r, crd n b (H k n) ≤ r → r ≤ q → occ T (cyc n b r) ≠ none := by
    intro q k v hq h
    have := I.line hH (b := b) (by omega) (by rw [hn, hplast]; exact ht) (q := q) (k := k) (v := v) (by omega) (by rw [hn]; exact h)
    rwa [hn] at this
  have hl : (T.set i none).length = n := by rw [List.length_set, hn]
  refine ⟨b, n - 1 - t + 1, ⟨by rw [hl]; exact hbl, by rw [hl]; omega, ?_, fun q h1 h2 => ?_, fun q hq k v h => ?_, fun p p' k v v' h h' => ?_⟩, ?_, fun k v => ?_⟩
  · rw [hl, hset, hplast]; split
    · rfl
    · exact ht
  · rw [hl] at h2 ⊢
    obtain ⟨j, rfl⟩ : ∃ j, q = n - 1 - t + j := ⟨q - (n - 1 - t), by omega⟩
    have hj : j < t := by omega
    have hne := hmin j hj
    cases ho : occ T (cyc n i j) with
    | none => exact absurd ho hne
    | some y =>
      have hij : cyc n i j ≠ i := by
        intro h
        have := cyc_inj (c := j) (d := 0) hil (by omega) (by omega) (by rw [h, cyc_zero hil])
        omega
      refine ⟨y, by rw [hset, hpos j (by omega), if_neg hij]; exact ho, ?_⟩
      obtain ⟨ky, vy⟩ := y
      exact (hline (q := n - 1 - t + j) (by omega) (by rw [hpos j (by omega)]; exact ho)).1
  · rw [hl] at h ⊢
    rw [hset] at h
    split at h
    · cases h
    · rename_i hne
      have hqa : q ≠ n - 1 - t := fun e => hne (by rw [e, hpi])
      obtain ⟨l1, l2⟩ := hline (by omega) h
      refine ⟨l1, fun r r1 r2 => ?_⟩
      rw [hset, if_neg]
      · exact l2 r r1 r2
      · intro e
        have := cyc_inj (c := r) (d := n - 1 - t) hbl (by omega) (by omega) (by rw [e, hpi])
        omega
  · rw [hset] at h h'
    split at h
    · cases h
    · split at h'
      · cases h'
      · exact I.nodup _ _ _ _ _ h h'
  · have := hpos 1 ht1
    exact this.symm
  · obtain ⟨kx, vx⟩ := x
    constructor
    · rintro ⟨p, hp⟩
      rw [hset] at hp
      split at hp
      · cases hp
      · rename_i hne
        refine ⟨⟨p, hp⟩, ?_⟩
        rintro rfl
        exact hne (I.nodup _ _ _ _ _ hp hi)
    · rintro ⟨⟨p, hp⟩, hk⟩
      refine ⟨p, ?_⟩
      rw [hset, if_neg]
      · exact hp
      · rintro rfl; rw [hi] at hp; cases hp; exact hk rfl

theorem DropInv.stop {b c : Nat} (J : DropInv H T b c) (h : occ T (cyc T.length b c) = none) : TbInv H T := by
  have hc : c = T.length - 1 := by
    have := J.hc
    by_cases h2 : c < T.length - 1
    · obtain ⟨x, hx, _⟩ := J.run c (Nat.le_refl _) h2
      rw [h] at hx; cases hx
    · omega
  have hp : 0 < T.length := by have := J.hb; omega
  refine ⟨hp, fun p k v hpk => ?_, J.nodup⟩
  have hh := hH k _ hp
  obtain ⟨q, hq, rfl⟩ := cyc_sur J.hb (occ_lt hpk)
  have hqn : q ≠ T.length - 1 := by rintro rfl; rw [J.last] at hpk; cases hpk
  obtain ⟨l1, l2⟩ := J.old q (by omega) k v hpk
  have hcc := cyc_crd J.hb hh
  have step : ∀ j, crd T.length b (H k T.length) + j < T.length → cyc T.length (H k T.length) j = cyc T.length b (crd T.length b (H k T.length) + j) := by
    intro j hj
    have := cyc_add (a := b) (b := crd T.length b (H k T.length)) (c := j) J.hb hj
    rwa [hcc] at this
  refine ⟨q - crd T.length b (H k T.length), by omega, ?_, fun j hj => ?_⟩
  · rw [step _ (by omega)]; congr 1; omega
  · rw [step _ (by omega)]; exact l2 _ (by omega) (by omega)

/-- The next of them is moved to where it is found. -/
theorem DropInv.step {b c : Nat} {k : Ky} {v : Int} (J : DropInv H T b c) (h : occ T (cyc T.length b c) = some (k, v)) {i' : Nat} (hf : Finds H (T.set (cyc T.length b c) none) k i') :
    i' < T.length ∧ occ (T.set (cyc T.length b c) none) i' = none ∧ c + 1 < T.length ∧ DropInv H ((T.set (cyc T.length b c) none).set i' (some (k, v))) b (c + 1) ∧ ∀ k' v', MemT ((T.set (cyc T.length b c) none).set i' (some (k, v))) k' v' ↔ MemT T k' v' := by
  have hb := J.hb
  have hcl := J.hc
  have hlast := J.last
  have hc1 : c < T.length - 1 := by
    by_cases h2 : c < T.length - 1
    · exact h2
    · have : c = T.length - 1 := by omega
      rw [this, hlast] at h; cases h
  have hp : 0 < T.length := by omega
  have hh := hH k _ hp
  have hpc := cyc_lt hb (Nat.le_of_lt hcl)
  have hset1 : ∀ q, occ (T.set (cyc T.length b c) none) q = if q = cyc T.length b c then none else occ T q := fun q => occ_set hpc
  have hl1 : (T.set (cyc T.length b c) none).length = T.length := List.length_set ..
  have hhc : crd T.length b (H k T.length) ≤ c := by
    obtain ⟨x, hx, hxc⟩ := J.run c (Nat.le_refl _) hc1
    rw [h] at hx; cases hx; exact hxc
  have hcc := cyc_crd hb hh
  have stp : ∀ j, crd T.length b (H k T.length) + j < T.length → cyc T.length (H k T.length) j = cyc T.length b (crd T.length b (H k T.length) + j) := by
    intro j hj
    have := cyc_add (a := b) (b := crd T.length b (H k T.length)) (c := j) hb hj
    rwa [hcc] at this
  obtain ⟨d, hd, he, hpath, ho⟩ := hf
  rw [hl1] at hd he hpath
  have hdle : d ≤ c - crd T.length b (H k T.length) := by
    by_cases hlt : c - crd T.length b (H k T.length) < d
    · obtain ⟨x, hx, _⟩ := hpath _ hlt
      rw [stp _ (by omega), show crd T.length b (H k T.length) + (c - crd T.length b (H k T.length)) = c by omega, hset1, if_pos rfl] at hx
      cases hx
    · omega
  generalize hc' : crd T.length b (H k T.length) + d = c' at *
  have hie : i' = cyc T.length b c' := by rw [he, stp d (by omega), hc']
  have hc'c : c' ≤ c := by omega
  have hil : i' < T.length := by rw [hie]; exact cyc_lt hb (by omega)
  have hnone : occ (T.set (cyc T.length b c) none) i' = none := by
    rcases ho with h1 | ⟨v', h1⟩
    · exact h1
    · rw [hset1] at h1
      split at h1
      · cases h1
      · rename_i hne
        exact absurd (J.nodup _ _ _ _ _ h1 h) hne
  have hset2 : ∀ q, occ ((T.set (cyc T.length b c) none).set i' (some (k, v))) q = if q = i' then some (k, v) else if q = cyc T.length b c then none else occ T q := by
    intro q
    rw [occ_set (by rw [hl1]; exact hil), hset1]
  have hl2 : ((T.set (cyc T.length b c) none).set i' (some (k, v))).length = T.length := by rw [List.length_set, hl1]
  have inj : ∀ {q q' : Nat}, q < T.length → q' < T.length → cyc T.length b q = cyc T.length b q' → q = q' := fun h1 h2 h3 => cyc_inj hb h1 h2 h3
  refine ⟨hil, hnone, by omega, ⟨by rw [hl2]; exact hb, by rw [hl2]; omega, ?_, fun q h1 h2 => ?_, fun q hq k2 v2 h2 => ?_, fun p p' k2 v2 v3 h2 h3 => ?_⟩, fun k' v' => ?_⟩
  · rw [hl2, hset2, if_neg, if_neg]
    · exact hlast
    · intro e; have := inj (by omega) hcl e; omega
    · rw [hie]; intro e; have := inj (by omega) (by omega) e; omega
  · rw [hl2] at h2 ⊢
    obtain ⟨x, hx, hxc⟩ := J.run q (by omega) h2
    refine ⟨x, ?_, hxc⟩
    rw [hset2, if_neg, if_neg]
    · exact hx
    · intro e; have := inj (by omega) hcl e; omega
    · rw [hie]; intro e; have := inj (by omega) (by omega) e; omega
  · rw [hl2] at h2 ⊢
    rw [hset2] at h2
    split at h2
    · rename_i hqi
      cases h2
      rw [hie] at hqi
      have hqc := inj (by omega) (by omega) hqi
      subst hqc
      refine ⟨by omega, fun r r1 r2 => ?_⟩
      rw [hset2]
      split
      · simp
      · rename_i hr
        have hrq : r ≠ q := fun e => hr (by rw [e, hie])
        obtain ⟨x, hx, _⟩ := hpath (r - crd T.length b (H k T.length)) (by omega)
        rw [stp _ (by omega), show crd T.length b (H k T.length) + (r - crd T.length b (H k T.length)) = r by omega, hset1] at hx
        rw [hx]; simp
    · rename_i hqi
      split at h2
      · cases h2
      · rename_i hqc
        have hqc' : q ≠ c := fun e => hqc (by rw [e])
        obtain ⟨l1, l2⟩ := J.old q (by omega) k2 v2 h2
        refine ⟨l1, fun r r1 r2 => ?_⟩
        rw [hset2]
        split
        · simp
        · rw [if_neg]
          · exact l2 r r1 r2
          · intro e; have := inj (by omega) hcl e; omega
  · have nk : ∀ q w, q ≠ i' → q ≠ cyc T.length b c → occ T q ≠ some (k, w) := fun q w _ hq hw => hq (J.nodup _ _ _ _ _ hw h)
    rw [hset2] at h2 h3
    split at h2
    · cases h2
      split at h3
      · omega
      · rename_i hn1
        split at h3
        · cases h3
        · rename_i hn2; exact absurd h3 (nk _ _ hn1 hn2)
    · rename_i hn1
      split at h2
      · cases h2
      · rename_i hn2
        split at h3
        · cases h3; exact absurd h2 (nk _ _ hn1 hn2)
        · split at h3
          · cases h3
          · exact J.nodup _ _ _ _ _ h2 h3
  · constructor
    · rintro ⟨p, hp⟩
      rw [hset2] at hp
      split at hp
      · cases hp; exact ⟨_, h⟩
      · split at hp
        · cases hp
        · exact ⟨p, hp⟩
    · rintro ⟨p, hp⟩
      by_cases hpc2 : p = cyc T.length b c
      · rw [hpc2, h] at hp; cases hp
        exact ⟨i', by rw [hset2, if_pos rfl]⟩
      · refine ⟨p, ?_⟩
        rw [hset2, if_neg, if_neg hpc2]
        · exact hp
        · rintro rfl
          rw [hset1, if_neg hpc2] at hnone
          rw [hnone] at hp; cases hp
end
end Go.Bx

/- Sums over lists. No program is in sight. -/
namespace Go.Bx
open Go
set_option linter.unusedSimpArgs false
def b2 (b : Bool) : Int := if b then 1 else 0
theorem b2_rng (b : Bool) : 0 ≤ b2 b ∧ b2 b ≤ 1 := by cases b <;> decide
def sumF {α : Type} (f : α → Int) (l : List α) : Int := (l.map f).sum
theorem sumF_nil {α : Type} (f : α → Int) : sumF f [] = 0 := rfl
theorem sumF_cons {α : Type} (f : α → Int) (a : α) (l : List α) : sumF f (a :: l) = f a + sumF f l := by simp [sumF]
theorem sumF_app {α : Type} (f : α → Int) (l l' : List α) : sumF f (l ++ l') = sumF f l + sumF f l' := by simp [sumF]
theorem sumF_set {α : Type} (f : α → Int) : ∀ (l : List α) (i : Nat) (x y : α), l[i]? = some x → sumF f (l.set i y) = sumF f l - f x + f y
  | [], _, _, _, h => by cases h
  | a :: l, 0, x, y, h => by
    obtain rfl : a = x := by simpa using h
    rw [List.set_cons_zero, sumF_cons, sumF_cons]; omega
  | a :: l, i + 1, x, y, h => by
    have ih := sumF_set f l i x y (by simpa using h)
    rw [List.set_cons_succ, sumF_cons, sumF_cons, ih]; omega
theorem sumF_nonneg {α : Type} (f : α → Int) : ∀ (l : List α), (∀ x ∈ l, 0 ≤ f x) → 0 ≤ sumF f l
  | [], _ => by rw [sumF_nil]; omega
  | a :: l, h => by
    have h1 := h a (by simp)
    have ih := sumF_nonneg f l (fun x hx => h x (by simp [hx]))
    rw [sumF_cons]; omega
theorem sumF_mem {α : Type} (f : α → Int) : ∀ (l : List α), (∀ x ∈ l, 0 ≤ f x) → ∀ x ∈ l, f x ≤ sumF f l
  | [], _, _, h => by cases h
  | a :: l, h, x, hx => by
    have h1 := h a (by simp)
    have h2 : ∀ y ∈ l, 0 ≤ f y := fun y hy => h y (by simp [hy])
    rw [sumF_cons]
    rcases List.mem_cons.1 hx with rfl | hx
    · have := sumF_nonneg f l h2; omega
    · have := sumF_mem f l h2 x hx; omega
theorem sumF_le {α : Type} (f : α → Int) (c : Int) : ∀ (l : List α), (∀ x ∈ l, f x ≤ c) → sumF f l ≤ c * l.length
  | [], _ => by simp [sumF_nil]
  | a :: l, h => by
    have h1 := h a (by simp)
    have ih := sumF_le f c l (fun x hx => h x (by simp [hx]))
    rw [sumF_cons, List.length_cons]
    have : c * ((l.length + 1 : Nat) : Int) = c * l.length + c := by rw [Int.natCast_add, Int.mul_add]; simp
    omega
theorem sumF_all {α : Type} (f : α → Int) : ∀ (l : List α), (∀ x ∈ l, f x = 1) → sumF f l = l.length
  | [], _ => rfl
  | a :: l, h => by
    have h1 := h a (by simp)
    have ih := sumF_all f l (fun x hx => h x (by simp [hx]))
    rw [sumF_cons, List.length_cons, h1, ih]; omega
theorem al2_0' {w : World} {a b : Obj} : ((w.alloc a).alloc b).heap[w.heap.size]? = some a := by rw [alloc_old (by rw [alloc_size]; omega), alloc_new]
end Go.Bx
