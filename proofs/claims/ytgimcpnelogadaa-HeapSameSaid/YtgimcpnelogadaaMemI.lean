/- Memory: results that stand in cells, behind ranges over functions. No program in sight. -/
import Derived.Test.YtgimcpnelogadaaMemF
namespace Go.Proofs.Ytgimcpnelogadaa.Mem
open Go.RowKit
set_option linter.unusedVariables false
variable {P : Program} {fn : Func} {R : Ending → World → Prop} {tmps : Array Value} {w : World} {v u : Value} {n : Nat}

theorem leaves_marksC : ∀ (Ds : List Nat) (w : World), Ds.Nodup → (∀ D ∈ Ds, w.heap[D]? = some (.deferred (some []))) → (∀ w', Chg Ds w w' → (results fn tmps).run P w' = .ok v w') → (∀ w', Chg Ds w w' → R (.returned v) w') →
    LeavesInM Fence.wide n P fn tmps R (Ds.map fun D => { target := .collected D, args := #[] }) .returning w
  | [], w, _, _, hr, hR => ⟨v, hr w (Chg.refl _ _), hR w (Chg.refl _ _)⟩
  | D :: Ds, w, hn, hK, hr, hR => by
    have hn' := List.nodup_cons.1 hn
    have hD := hK D (List.mem_cons_self ..)
    have hc : Chg [D] w (w.putObj D (.deferred none)) := Chg.of_grown (grownBy_putObj' w D _) (fun k hk => .inl (by cases hk; simp))
    have hcc : ∀ w', Chg Ds (w.putObj D (.deferred none)) w' → Chg (D :: Ds) w w' := fun w' h => (hc.mono (by simp)).trans (h.mono (fun x hx => List.mem_cons_of_mem _ hx))
    refine ⟨by simp, .inl ⟨_, _, rfl, run_takeDeferred hD, leaves_marksC Ds _ hn'.2 (fun E hE => ?_) (fun w' h => hr w' (hcc w' h)) (fun w' h => hR w' (hcc w' h))⟩⟩
    have hne : E ≠ D := fun e => hn'.1 (e ▸ hE)
    rw [World.putObj_heap_other hne]
    exact hK E (List.mem_cons_of_mem _ hE)
/-- Behind one range, where the results stand in cells. -/
theorem ret_marks1C {D : Nat} (hK : w.heap[D]? = some (.deferred (some []))) (hr : ∀ w', Chg [D] w w' → (results fn tmps).run P w' = .ok v w') (hR : ∀ w', Chg [D] w w' → R (.returned v) w') :
    bodyPostM Fence.wide n P fn R .ret { tmps := tmps, defers := [{ target := .collected D, args := #[] }] } w :=
  leaves_marksC [D] w (by simp) (by simpa using hK) hr hR

theorem run_loadVar1 {t : TypeId} {a : Addr} (hg : (isAgg t).run P w = .ok false w) (h : w.cell? a = some v) : (loadVar t a).run P w = .ok v w := by
  simp [loadVar, hg, h]
theorem results_cell1 {p : Tmp} {s : TypeId} {a : Addr} (h : fn.results = #[.cell p s]) (hp : tmps.getD p undef = .pointer (some a)) (hs : (isAgg s).run P w = .ok false w) (h1 : w.cell? a = some v) :
    (results fn tmps).run P w = .ok v w := by
  have hp' : tmps[p]?.getD undef = .pointer (some a) := by simpa using hp
  simp [results, h, hp', asAddr, run_loadVar1 hs h1]
theorem results_cell2 {p q : Tmp} {s t : TypeId} {a b : Addr} (h : fn.results = #[.cell p s, .cell q t]) (hp : tmps.getD p undef = .pointer (some a)) (hq : tmps.getD q undef = .pointer (some b))
    (hs : (isAgg s).run P w = .ok false w) (ht : (isAgg t).run P w = .ok false w) (h1 : w.cell? a = some v) (h2 : w.cell? b = some u) :
    (results fn tmps).run P w = .ok (.tuple #[v, u]) w := by
  have hp' : tmps[p]?.getD undef = .pointer (some a) := by simpa using hp
  have hq' : tmps[q]?.getD undef = .pointer (some b) := by simpa using hq
  simp [results, h, hp', hq', asAddr, run_loadVar1 hs h1, run_loadVar1 ht h2]
end Go.Proofs.Ytgimcpnelogadaa.Mem
