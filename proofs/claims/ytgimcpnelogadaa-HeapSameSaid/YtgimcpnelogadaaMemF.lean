/- A function that holds ranges over functions: how it returns. No program in sight. -/
import Derived.Test.YtgimcpnelogadaaMemE
import Derived.RangeFuncLeaves
import Derived.RangeFuncNested
namespace Go.Proofs.Ytgimcpnelogadaa.Mem
open Go.RowKit
set_option linter.unusedVariables false
variable {P : Program} {fn : Func} {R : Ending → World → Prop} {tmps : Array Value} {w : World} {v : Value} {n : Nat}

theorem ret_marks0 (hr : (results fn tmps).run P w = .ok v w) (hR : R (.returned v) w) : bodyPostM Fence.wide n P fn R .ret { tmps := tmps, defers := [] } w := ⟨v, hr, hR⟩

theorem leaves_marks (hr : ∀ w', (results fn tmps).run P w' = .ok v w') : ∀ (Ds : List Nat) (w : World), Ds.Nodup → (∀ D ∈ Ds, w.heap[D]? = some (.deferred (some []))) → (∀ w', Chg Ds w w' → R (.returned v) w') →
    LeavesInM Fence.wide n P fn tmps R (Ds.map fun D => { target := .collected D, args := #[] }) .returning w
  | [], w, _, _, hR => ⟨v, hr w, hR w (Chg.refl _ _)⟩
  | D :: Ds, w, hn, hK, hR => by
    have hn' := List.nodup_cons.1 hn
    have hD := hK D (List.mem_cons_self ..)
    have hc : Chg [D] w (w.putObj D (.deferred none)) := Chg.of_grown (grownBy_putObj' w D _) (fun k hk => .inl (by cases hk; simp))
    refine ⟨by simp, .inl ⟨_, _, rfl, run_takeDeferred hD, leaves_marks hr Ds _ hn'.2 (fun E hE => ?_) (fun w' h => hR w' ((hc.mono (by simp)).trans (h.mono (fun x hx => List.mem_cons_of_mem _ hx))))⟩⟩
    have hne : E ≠ D := fun e => hn'.1 (e ▸ hE)
    rw [World.putObj_heap_other hne]
    exact hK E (List.mem_cons_of_mem _ hE)
/-- Behind one range. -/
theorem ret_marks1 {D : Nat} (hK : w.heap[D]? = some (.deferred (some []))) (hr : ∀ w', (results fn tmps).run P w' = .ok v w') (hR : ∀ w', Chg [D] w w' → R (.returned v) w') :
    bodyPostM Fence.wide n P fn R .ret { tmps := tmps, defers := [{ target := .collected D, args := #[] }] } w :=
  leaves_marks hr [D] w (by simp) (by simpa using hK) hR
/-- Behind two. -/
theorem ret_marks2 {D E : Nat} (hne : D ≠ E) (hK : w.heap[D]? = some (.deferred (some []))) (hL : w.heap[E]? = some (.deferred (some []))) (hr : ∀ w', (results fn tmps).run P w' = .ok v w') (hR : ∀ w', Chg [D, E] w w' → R (.returned v) w') :
    bodyPostM Fence.wide n P fn R .ret { tmps := tmps, defers := [{ target := .collected D, args := #[] }, { target := .collected E, args := #[] }] } w :=
  leaves_marks hr [D, E] w (by simpa using hne) (by simp [hK, hL]) hR
end Go.Proofs.Ytgimcpnelogadaa.Mem
