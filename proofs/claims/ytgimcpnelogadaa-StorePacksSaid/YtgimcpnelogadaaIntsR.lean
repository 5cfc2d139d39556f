/- A []int argument, as it reads. -/
import Derived.Test.YtgimcpnelogadaaFillsP
import Derived.ChangeSlices
import Derived.OpenShut
import Derived.SizedLaws
namespace Go.Proofs.Ytgimcpnelogadaa.Sto
open Go.RowKit Go.ChangeShapes Go.WideShapes
set_option linter.unusedVariables false
theorem ints_read {H : Type} {enc : TypeId × Value → H} {w : World} {base n c fuel : Nat} {B : Option Addr} {x : DataW H × List MemPlace} (h : DataW.trod enc Try.prog w base (fun _ => true) true fuel 29 #[.slice B n c].toList = some x) : ∃ zs : List Int, n = zs.length ∧ Ints w B c zs := by
  rcases Go.ChangeShapes.open_ints Try.underlying29 Try.underlying3 (show Try.prog.cellsOf 3 = 1 by kernel_rfl) h with ⟨hcs, hx⟩ | ⟨a, len', cap', zs, hcs, _, hl, hm, hz, hx, hcell, hwz⟩
  · simp at hcs
    obtain ⟨rfl, rfl, rfl⟩ := hcs
    exact ⟨[], rfl, ⟨by simp, by simp, by simp, fun i hi => by simp at hi⟩⟩
  · simp at hcs
    obtain ⟨rfl, rfl, rfl⟩ := hcs
    simp only [if_true] at hz
    have hlt : (zs.take n).length = n := by rw [List.length_take]; omega
    refine ⟨zs.take n, hlt.symm, ⟨by omega, by simpa only [maxLen] using hm, fun z hz' => (bounds_i64 (hwz z (List.mem_of_mem_take hz'))), fun i hi => ⟨a, rfl, ?_⟩⟩⟩
    rw [hlt] at hi
    rw [hcell i (by omega), List.getD_eq_getElem?_getD, List.getElem?_eq_getElem (by omega), Option.getD_some, List.getElem_take]
end Go.Proofs.Ytgimcpnelogadaa.Sto
