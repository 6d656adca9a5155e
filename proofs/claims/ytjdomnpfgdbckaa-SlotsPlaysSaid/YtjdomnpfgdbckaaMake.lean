/- Making a slice, and two blocks laid one behind the other. -/
import Derived.Test.YtjdomnpfgdbckaaBxOps
namespace Go.Proofs.Ytjdomnpfgdbckaa
open Go Go.Bx
def msR (P : Program) (t : TypeId) (a b : Value) (w : World) : Result Value := (Instr.makeSlice t a b).run P w
theorem rG_makeSlice {P : Program} {t ty : TypeId} {e : Env} {w : World} {x y : Operand} : rG P (.makeSlice t x y) ty e w = vR (msR P t (ev e x) (ev e y) w) := run_v _
theorem al2_0' {w : World} {a b : Obj} : ((w.alloc a).alloc b).heap[w.heap.size]? = some a := by rw [alloc_old (by rw [alloc_size]; omega), alloc_new]
end Go.Proofs.Ytjdomnpfgdbckaa
