/- Memory, told by whole blocks: a builtin's call whose run is known. -/
import Derived.Test.YtgimcpnelogadaaMemA
namespace Go.Proofs.Ytgimcpnelogadaa.Mem
open Go.RowKit
set_option linter.unusedVariables false
section
variable {P : Program} (w : World) {ops : Array Oper} {rest : List Oper} {o : Oper} {a : Act} {Q : Exit → Act → World → Prop}
/-- A builtin's call of two operands. -/
theorem wpList_builtin2 (hgd : o.guard = none) (b : Builtin) (s x : Operand) (ts : Array TypeId) (ho : o.op = .call { callee := .builtin b, args := #[s, x], argTypes := ts }) (vs vx : Value) (hs : a.eval s = vs) (hx : a.eval x = vx)
    (v' : Value) (w' : World) (hr : ∀ consts, (builtin b ts o.type consts #[vs, vx]).run P w = .ok (.value v') w') (h : wpList P ops Q rest (a.put o.dst v') w') : wpList P ops Q (o :: rest) a w :=
  wpList_builtin w hgd b #[s, x] ts ho #[vs, vx] (by simp [hs, hx]) v' w' hr h
/-- .. of one. -/
theorem wpList_builtin1 (hgd : o.guard = none) (b : Builtin) (s : Operand) (ts : Array TypeId) (ho : o.op = .call { callee := .builtin b, args := #[s], argTypes := ts }) (vs : Value) (hs : a.eval s = vs)
    (v' : Value) (w' : World) (hr : ∀ consts, (builtin b ts o.type consts #[vs]).run P w = .ok (.value v') w') (h : wpList P ops Q rest (a.put o.dst v') w') : wpList P ops Q (o :: rest) a w :=
  wpList_builtin w hgd b #[s] ts ho #[vs] (by simp [hs]) v' w' hr h
theorem step_builtin2 {K : Act → World → Prop} {E : Prop} (hgd : o.guard = none) (b : Builtin) (s x : Operand) (ts : Array TypeId) (ho : o.op = .call { callee := .builtin b, args := #[s, x], argTypes := ts }) (vs vx : Value) (hs : a.eval s = vs) (hx : a.eval x = vx)
    (v' : Value) (w' : World) (hr : ∀ consts, (builtin b ts o.type consts #[vs, vx]).run P w = .ok (.value v') w') (h : K (a.put o.dst v') w') :
    if Region.wanted o (yielded ops a.tmps) = true then Oper.wp P o a w K Q else E :=
  step_builtin w hgd b #[s, x] ts ho #[vs, vx] (by simp [hs, hx]) v' w' hr h
end
end Go.Proofs.Ytgimcpnelogadaa.Mem
namespace Go.Proofs.Ytgimcpnelogadaa.Mem
open Go.RowKit
set_option linter.unusedVariables false
section
variable {w w' : World} {t : TypeId} {size n : Nat} {v : Value} {xs : List Value}
theorem Row.farCell (h : Row w t size v n xs) {p : Addr} (hp : v.ownBlock ≠ some p.block) (u : Value) : Row (w.setCell p u) t size v n xs :=
  h.keep fun g hg => Below.heap_setCell _ _ _ _ (fun e => hp (by rw [hg, e]))
theorem Row.chg {F : List Nat} (h : Row w t size v n xs) (hc : Chg F w w') (hF : ∀ k, v.ownBlock = some k → k ∉ F) : Row w' t size v n xs :=
  h.keep fun g hg => hc.block g (h.lt hg) (hF g hg)
theorem Row.drew (h : Row w t size v n xs) : Row w.drew t size v n xs := h.keep fun _ _ => rfl
theorem Row.drewN (h : Row w t size v n xs) (k : Nat) : Row (w.drewN k) t size v n xs := h.keep fun _ _ => rfl
theorem Row.alloc (h : Row w t size v n xs) (o : Obj) : Row (w.alloc o) t size v n xs := h.keep fun g hg => Below.heap_alloc _ _ _ (h.lt hg)
variable {P : Program} {T : TypeId} {b k : Nat} {f : Int → Option Int}
theorem IMap.farCell (h : IMap P T w b k f) {p : Addr} (hp : b ≠ p.block) (u : Value) : IMap P T (w.setCell p u) b k f := h.keep (Below.heap_setCell _ _ _ _ hp)
theorem IMap.chg {F : List Nat} (h : IMap P T w b k f) (hc : Chg F w w') (hF : b ∉ F) : IMap P T w' b k f := h.keep (hc.block b h.lt hF)
theorem IMap.drew (h : IMap P T w b k f) : IMap P T w.drew b k f := h.keep rfl
theorem IMap.alloc (h : IMap P T w b k f) (o : Obj) : IMap P T (w.alloc o) b k f := h.keep (Below.heap_alloc _ _ _ h.lt)
/-- 'delete(m, k)', whatever its type's number. -/
theorem IMap.drops (h : IMap P T w b k f) {tm : TypeId} (ht : P.underlying tm = some (.map T T)) (hT : P.underlying T = some (.int .i64)) (x : Int) (hx : (Lit.int .i64 x).wf = true) :
    ∃ w', (∀ ty consts, (builtin .delete #[tm, T] ty consts #[.map (some b), .int .i64 x]).run P w = .ok (.value (.tuple #[])) w') ∧ IMap P T w' b k (fun y => if y = x then none else f y) ∧ Chg [b] w w' := by
  obtain ⟨w', h1, h2, h3⟩ := h.drop ht hT x hx 0 #[]
  exact ⟨w', fun _ _ => h1, h2, h3⟩
end
end Go.Proofs.Ytgimcpnelogadaa.Mem
