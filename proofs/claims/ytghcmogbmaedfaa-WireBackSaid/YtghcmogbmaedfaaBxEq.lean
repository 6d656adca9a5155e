/- Comparisons of interfaces, pointers, slices and maps. -/
import Derived.Test.YtghcmogbmaedfaaBxOps
namespace Go.Bx
open Go
set_option linter.unusedSimpArgs false
set_option linter.unusedVariables false
section
variable {P : Program} {t T E : TypeId} {x y : Operand} {w : World} {sz by_ a1 b1 : Nat} {z z1 : Value} {ms : Array (String × TypeId)} {k : IntKind} {m n : Int} {p q : Bool} {a : Addr} {l c l2 c2 : Nat} {v u : Value}

theorem binR_eq_of {r : Bool} (hg : (eqGuard .eql t x y v u).run P w = .ok () w) (hb : binOp .eql t v u = (do pure (.bool (← Op.equal t v u)) : Sem Value)) (h : (Op.equal t v u).run P w = .ok r w) : binR P .eql t x y v u w = .ok (.bool r) w := by
  unfold binR
  simp only [Sem.run_bind, hg, Result.andThen_ok, hb, h]; rfl
theorem binR_ne_of {r : Bool} (hg : (eqGuard .neq t x y v u).run P w = .ok () w) (hb : binOp .neq t v u = (do pure (.bool (!(← Op.equal t v u))) : Sem Value)) (h : (Op.equal t v u).run P w = .ok r w) : binR P .neq t x y v u w = .ok (.bool (!r)) w := by
  unfold binR
  simp only [Sem.run_bind, hg, Result.andThen_ok, hb, h]; rfl

theorem equal_nn (h : TI P t (.interface ms) sz by_ z) : (Op.equal t .nilIface .nilIface).run P w = .ok true w := by
  show (Op.equalIn (9999 + 1) t _ _).run P w = _
  unfold Op.equalIn
  simp only [Sem.run_bind, h.underlying, Result.andThen_ok]; rfl
theorem equal_in (h : TI P t (.interface ms) sz by_ z) : (Op.equal t (.iface T v) .nilIface).run P w = .ok false w := by
  show (Op.equalIn (9999 + 1) t _ _).run P w = _
  unfold Op.equalIn
  simp only [Sem.run_bind, h.underlying, Result.andThen_ok]; rfl
theorem equal_ni (h : TI P t (.interface ms) sz by_ z) : (Op.equal t .nilIface (.iface T v)).run P w = .ok false w := by
  show (Op.equalIn (9999 + 1) t _ _).run P w = _
  unfold Op.equalIn
  simp only [Sem.run_bind, h.underlying, Result.andThen_ok]; rfl
theorem equal_ii (h : TI P t (.interface ms) sz by_ z) (h2 : TI P T (.int k) a1 b1 z1) (hc : (P.info? T).map (·.comparable) = some true) : (Op.equal t (.iface T (.int k m)) (.iface T (.int k n))).run P w = .ok (m == n) w := by
  obtain ⟨i, hi, _, _, _⟩ := h2.inf
  have hci : i.comparable = true := by rw [hi] at hc; simpa using hc
  have e : (Go.typeInfo T).run P w = .ok i w := by simp [Go.typeInfo, hi]
  show (Op.equalIn (9999 + 1) t _ _).run P w = _
  unfold Op.equalIn
  simp only [Sem.run_bind, h.underlying, Result.andThen_ok, ne_eq, not_true_eq_false, if_false, e, hci, Bool.not_true, Bool.false_eq_true, run_equalIn_int w 9998 T k k _ _ h2.und]
theorem eql_nn {u' : Value} (h : TI P t (.interface ms) sz by_ z) : binR P .eql t x (.const u') .nilIface .nilIface w = .ok (.bool true) w :=
  binR_eq_of (by cases x <;> rfl) rfl (equal_nn h)
theorem neq_nn {u' : Value} (h : TI P t (.interface ms) sz by_ z) : binR P .neq t x (.const u') .nilIface .nilIface w = .ok (.bool false) w :=
  binR_ne_of (by cases x <;> rfl) rfl (equal_nn h)
theorem eql_in (h : TI P t (.interface ms) sz by_ z) : binR P .eql t x y (.iface T v) .nilIface w = .ok (.bool false) w := binR_eq_of rfl rfl (equal_in h)
theorem neq_in (h : TI P t (.interface ms) sz by_ z) : binR P .neq t x y (.iface T v) .nilIface w = .ok (.bool true) w := binR_ne_of rfl rfl (equal_in h)
theorem eql_ni (h : TI P t (.interface ms) sz by_ z) : binR P .eql t x y .nilIface (.iface T v) w = .ok (.bool false) w := binR_eq_of rfl rfl (equal_ni h)
theorem neq_ni (h : TI P t (.interface ms) sz by_ z) : binR P .neq t x y .nilIface (.iface T v) w = .ok (.bool true) w := binR_ne_of rfl rfl (equal_ni h)
theorem eql_ii (h : TI P t (.interface ms) sz by_ z) (h2 : TI P T (.int k) a1 b1 z1) (hc : (P.info? T).map (·.comparable) = some true) : binR P .eql t x y (.iface T (.int k m)) (.iface T (.int k n)) w = .ok (.bool (m == n)) w := binR_eq_of rfl rfl (equal_ii h h2 hc)
theorem neq_ii (h : TI P t (.interface ms) sz by_ z) (h2 : TI P T (.int k) a1 b1 z1) (hc : (P.info? T).map (·.comparable) = some true) : binR P .neq t x y (.iface T (.int k m)) (.iface T (.int k n)) w = .ok (.bool (!(m == n))) w := binR_ne_of rfl rfl (equal_ii h h2 hc)

theorem equal_pp (h : TI P t (.pointer E) sz by_ z) : (Op.equal t (.pointer none) (.pointer none)).run P w = .ok true w := by
  show (Op.equalIn (9999 + 1) t _ _).run P w = _
  unfold Op.equalIn
  simp only [Sem.run_bind, h.underlying, Result.andThen_ok]; rfl
theorem equal_pa (h : TI P t (.pointer E) sz by_ z) : (Op.equal t (.pointer (some a)) (.pointer none)).run P w = .ok false w := by
  show (Op.equalIn (9999 + 1) t _ _).run P w = _
  unfold Op.equalIn
  simp only [Sem.run_bind, h.underlying, Result.andThen_ok]; rfl
theorem eql_pp (h : TI P t (.pointer E) sz by_ z) : binR P .eql t x y (.pointer none) (.pointer none) w = .ok (.bool true) w := binR_eq_of rfl rfl (equal_pp h)
theorem neq_pp (h : TI P t (.pointer E) sz by_ z) : binR P .neq t x y (.pointer none) (.pointer none) w = .ok (.bool false) w := binR_ne_of rfl rfl (equal_pp h)
theorem eql_pa (h : TI P t (.pointer E) sz by_ z) : binR P .eql t x y (.pointer (some a)) (.pointer none) w = .ok (.bool false) w := binR_eq_of rfl rfl (equal_pa h)
theorem neq_pa (h : TI P t (.pointer E) sz by_ z) : binR P .neq t x y (.pointer (some a)) (.pointer none) w = .ok (.bool true) w := binR_ne_of rfl rfl (equal_pa h)

theorem equal_ss (h : TI P t (.slice E) sz by_ z) : (Op.equal t (.slice none l c) (.slice none l2 c2)).run P w = .ok true w := by
  show (Op.equalIn (9999 + 1) t _ _).run P w = _
  unfold Op.equalIn
  simp only [Sem.run_bind, h.underlying, Result.andThen_ok]; rfl
theorem equal_sa (h : TI P t (.slice E) sz by_ z) : (Op.equal t (.slice (some a) l c) (.slice none l2 c2)).run P w = .ok false w := by
  show (Op.equalIn (9999 + 1) t _ _).run P w = _
  unfold Op.equalIn
  simp only [Sem.run_bind, h.underlying, Result.andThen_ok]; rfl
theorem eql_ss (h : TI P t (.slice E) sz by_ z) : binR P .eql t x y (.slice none l c) (.slice none l2 c2) w = .ok (.bool true) w := binR_eq_of rfl rfl (equal_ss h)
theorem neq_ss (h : TI P t (.slice E) sz by_ z) : binR P .neq t x y (.slice none l c) (.slice none l2 c2) w = .ok (.bool false) w := binR_ne_of rfl rfl (equal_ss h)
theorem eql_sa (h : TI P t (.slice E) sz by_ z) : binR P .eql t x y (.slice (some a) l c) (.slice none l2 c2) w = .ok (.bool false) w := binR_eq_of rfl rfl (equal_sa h)
theorem neq_sa (h : TI P t (.slice E) sz by_ z) : binR P .neq t x y (.slice (some a) l c) (.slice none l2 c2) w = .ok (.bool true) w := binR_ne_of rfl rfl (equal_sa h)
end

def mnR (a b : Value) (P : Program) (w : World) : Result Value := (Builtin.min_ #[] 0 #[a, b]).run P w
def mxR (a b : Value) (P : Program) (w : World) : Result Value := (Builtin.max_ #[] 0 #[a, b]).run P w
theorem rG_min {P : Program} {t t2 ty : TypeId} {e : Env} {w : World} {x y : Operand} : rG P (.call { callee := .builtin .min, args := #[x, y], argTypes := #[t, t2] }) ty e w = vR (mnR (ev e x) (ev e y) P w) := by
  show (do let d ← resolve (ev e) { callee := .builtin .min, args := #[x, y], argTypes := #[t, t2] } ty; invoke d.target d.args : Sem Next).run P w = _
  simp only [Sem.run_bind, resolve, pure, Sem.run, Result.andThen_ok, invoke, builtin]
  simp only [List.map_toArray, List.map_cons, List.map_nil]
  rfl
theorem rG_max {P : Program} {t t2 ty : TypeId} {e : Env} {w : World} {x y : Operand} : rG P (.call { callee := .builtin .max, args := #[x, y], argTypes := #[t, t2] }) ty e w = vR (mxR (ev e x) (ev e y) P w) := by
  show (do let d ← resolve (ev e) { callee := .builtin .max, args := #[x, y], argTypes := #[t, t2] } ty; invoke d.target d.args : Sem Next).run P w = _
  simp only [Sem.run_bind, resolve, pure, Sem.run, Result.andThen_ok, invoke, builtin]
  simp only [List.map_toArray, List.map_cons, List.map_nil]
  rfl
theorem mnR_int {P : Program} {w : World} {k : IntKind} {m n : Int} : mnR (.int k m) (.int k n) P w = .ok (.int k (if n < m then n else m)) w := rfl
theorem mxR_int {P : Program} {w : World} {k : IntKind} {m n : Int} : mxR (.int k m) (.int k n) P w = .ok (.int k (if m < n then n else m)) w := rfl
end Go.Bx
