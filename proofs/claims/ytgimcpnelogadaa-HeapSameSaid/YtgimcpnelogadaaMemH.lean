/- A region's reading head, stepped cheaply: whether an operation is wanted is decided by reduction. No program in sight. -/
import Derived.Test.YtgimcpnelogadaaMemC
import Derived.OwnWalkIn
namespace Go.Proofs.Ytgimcpnelogadaa.Mem
open Go.RowKit
/-- wpStill, told so that nothing unfolds it. -/
structure StW (P : Program) (ops : List Oper) (w : World) (Q : Act → Prop) (l : List Oper) (a : Act) : Prop where
  out : wpStill P ops.toArray w Q l a
variable {P : Program} {ops rest : List Oper} {w : World} {Q : Act → Prop} {a : Act} {o : Oper}
theorem still_take (h : Region.wanted o (yielded ops.toArray a.tmps) = true) (k : ∀ K : Act → Prop, (∀ a, StW P ops w Q rest a → K a) → o.still P a w K) : StW P ops w Q (o :: rest) a := by
  refine ⟨?_⟩
  unfold wpStill
  rw [if_pos h]
  exact k _ fun _ h => h.out
theorem still_skip (h : Region.wanted o (yielded ops.toArray a.tmps) = false) (k : StW P ops w Q rest (a.put o.dst undef)) : StW P ops w Q (o :: rest) a := by
  refine ⟨?_⟩
  unfold wpStill
  rw [if_neg (by rw [h]; simp)]
  exact k.out
theorem still_end (k : Q a) : StW P ops w Q [] a := ⟨k⟩
/-- A builtin's call of two operands, inside a fence. -/
theorem wpListIn_builtin2 {F : Fence} {n : Nat} {P : Program} {w : World} {ops : Array Oper} {rest : List Oper} {o : Oper} {a : Act} {Q : Exit → Act → World → Prop} (hgd : o.guard = none) (b : Builtin) (s x : Operand) (ts : Array TypeId)
    (ho : o.op = .call { callee := .builtin b, args := #[s, x], argTypes := ts }) (vs vx : Value) (hs : a.eval s = vs) (hx : a.eval x = vx) (v' : Value) (w' : World)
    (hr : ∀ consts, (builtin b ts o.type consts #[vs, vx]).run P w = .ok (.value v') w') (h : wpListIn F n P ops Q rest (a.put o.dst v') w') : wpListIn F n P ops Q (o :: rest) a w := by
  refine wpListIn_plain hgd fun K hK' => ?_
  unfold Oper.wpIn
  refine ⟨?_, ?_⟩
  · simp [Oper.about, ho, resolve, Target.leads, Sem.run_pure]
  · rw [Oper.semAt_plain F _ _ (by rw [ho]; intro c hc'; cases hc')]
    simp only [execOp, ho, resolve, invoke, Sem.run_bind, Sem.run_pure, Result.andThen_ok, List.map_toArray, List.map_cons, List.map_nil, hs, hx, hr]
    exact hK' _ _ h
end Go.Proofs.Ytgimcpnelogadaa.Mem
