/- HeapSame: for every input the law returns true; the arguments read behind the call as before. No condition. -/
import Derived.Test.YtgimcpnelogadaaRows
import Derived.Test.YtgimcpnelogadaaHpV
import Derived.Carry
import Derived.WalkKit
import Derived.ProofKit
import Derived.OpenShut
import Derived.ChangeOld
import Derived.ChangeSlices
import Derived.Below
import Derived.SizedLaws
import Derived.Deep.Slices
import Derived.Deep.Grids
import Derived.Lib.SmallJoins
namespace Go.Proofs.Ytgimcpnelogadaa.Hp
open Go.RowKit Go.ChangeShapes Go.WideShapes
set_option linter.unusedVariables false
theorem rowI_read {H : Type} {enc : TypeId × Value → H} {w : World} {base n c fuel : Nat} {B : Option Addr} {x : DataW H × List MemPlace} (h : DataW.trod enc Try.prog w base (fun _ => true) true fuel 29 #[.slice B n c].toList = some x) : ∃ zs : List Int, n = zs.length ∧ RowI w B c zs := by
  rcases Go.ChangeShapes.open_ints Try.underlying29 Try.underlying3 (show Try.prog.cellsOf 3 = 1 by kernel_rfl) h with ⟨hcs, hx⟩ | ⟨a, len', cap', zs, hcs, _, hl, hm, hz, hx, hcell, hwz⟩
  · simp at hcs
    obtain ⟨rfl, rfl, rfl⟩ := hcs
    exact ⟨[], rfl, ⟨by simp, by simp, fun i hi => by simp at hi, by simp⟩⟩
  · simp at hcs
    obtain ⟨rfl, rfl, rfl⟩ := hcs
    simp only [if_true] at hz
    have hlt : (zs.take n).length = n := by rw [List.length_take]; omega
    refine ⟨zs.take n, hlt.symm, ⟨by omega, by simpa only [maxLen] using hm, fun i hi => ⟨a, rfl, ?_⟩, fun z hz' => ?_⟩⟩
    · rw [hlt] at hi
      rw [hcell i (by omega), List.getD_eq_getElem?_getD, List.getD_eq_getElem?_getD, List.getElem?_take_of_lt (by omega)]
    · have := bounds_i64 (hwz z (List.mem_of_mem_take hz'))
      omega
theorem rowB_read {H : Type} {enc : TypeId × Value → H} {w : World} {base n c fuel : Nat} {B : Option Addr} {x : DataW H × List MemPlace} (h : DataW.trod enc Try.prog w base (fun _ => true) true fuel 50 #[.slice B n c].toList = some x) : ∃ zs : List Bool, n = zs.length ∧ RowB w B c zs := by
  rcases Go.Deep.open_bools Try.underlying50 Try.underlying4 (show Try.prog.cellsOf 4 = 1 by kernel_rfl) h with ⟨hcs, hx⟩ | ⟨a, len', cap', Z, hcs, _, hl, hm, hx, hcell⟩
  · simp at hcs
    obtain ⟨rfl, rfl, rfl⟩ := hcs
    exact ⟨[], rfl, ⟨by simp, by simp, fun i hi => by simp at hi⟩⟩
  · simp at hcs
    obtain ⟨rfl, rfl, rfl⟩ := hcs
    refine ⟨(List.range n).map Z, by simp, ⟨by simpa using hl, by simpa only [maxLen] using hm, fun i hi => ⟨a, rfl, ?_⟩⟩⟩
    rw [List.length_map, List.length_range] at hi
    rw [hcell i (by omega), List.getD_eq_getElem?_getD, List.getElem?_map, List.getElem?_range hi]
    rfl
end Go.Proofs.Ytgimcpnelogadaa.Hp
namespace Go.Proofs.Ytgimcpnelogadaa.heapSame
open Go.ChangeShapes Go.WideShapes Go.ChangeAt Go.RowKit Go.Joins
set_option linter.unusedVariables false
set_option maxRecDepth 100000 in
theorem lifted (os : Os) (started : os.Started) (H : Type) (enc : TypeId × Value → H) :
    ReturnsInHanded {} Try.checked os 11 .any (Rows.heapSameSpec.pre6 enc Try.prog Try.f11 [] false) (Rows.heapSameSpec.post enc Try.prog Try.f11 false true false false) := by
  refine returnsInHanded_of_change (C := Try.checked) (show ownKnob Try.prog.godebug = none by kernel_rfl) started (by kernel_rfl) Try.func11
    (ChangeSpec.witness6 (enc := enc) (C := Try.checked) false ⟨#[], #[.int .i64 0, .slice none 0 0, .slice none 0 0], []⟩ 8 (by kernel_rfl) (by kernel_rfl) (by kernel_rfl) (by kernel_rfl)) ?_
  intro W base args ds gs before hval0 hW hcnd _
  have hval : ∀ (j : Nat) t v, Try.f11.params[j]? = some t → args[j]? = some v → Value.okWide Try.prog W .any base t v := hval0
  have hW' := hW
  obtain ⟨p, q, hA0, hV, rfl, hfz, hnd⟩ := hW
  have hA : DataW.TrodAll enc Try.prog W 0 (fun _ => true) true Try.f11.params.toList args.toList ds p := hA0
  rw [Try.params11] at hA hval
  obtain ⟨v0, vs0, d0, ds0, p0, q0, hargs, rfl, rfl, h0, r0⟩ := trodAll_cons hA
  obtain ⟨v1, vs1, d1, ds1, p1, q1, rfl, rfl, rfl, h1, r1⟩ := trodAll_cons r0
  obtain ⟨v2, vs2, d2, ds2, p2, q2, rfl, rfl, rfl, h2, r2⟩ := trodAll_cons r1
  obtain ⟨rfl, rfl, rfl⟩ := trodAll_nil r2
  obtain rfl : args = #[v0, v1, v2] := by cases args; simp_all
  obtain ⟨rfl, rfl⟩ := trodVars_none hV
  obtain ⟨a0, rfl, rfl, rfl, w0⟩ := open_int Try.underlying3 (hval 0 3 v0 rfl rfl) h0
  obtain ⟨B1, n1, c1, rfl⟩ := Go.WideShapes.okWide_slice Try.underlying29 (hval 1 29 v1 rfl rfl)
  obtain ⟨B2, n2, c2, rfl⟩ := Go.WideShapes.okWide_slice Try.underlying50 (hval 2 50 v2 rfl rfl)
  have h1k := h1
  have h2k := h2
  obtain ⟨fuel1, hf1⟩ := h1
  obtain ⟨fuel2, hf2⟩ := h2
  obtain ⟨zs, hl1, hI1⟩ := Hp.rowI_read hf1
  obtain ⟨bs, hl2, hI2⟩ := Hp.rowB_read hf2
  subst hl1 hl2
  have hlt : ∀ x ∈ p1 ++ p2, x.block < W.heap.size := fun x hx => by simpa using hW'.lt x (by simpa using hx)
  clear hA0 hval0
  refine (Hp.same_walk ⟨(bounds_i64 w0).1, Int.le_of_lt_add_one (by have := (bounds_i64 w0).2; omega)⟩ hI1 hI2).mono fun e W' ⟨he, bel⟩ => ?_
  subst he
  exact ⟨_, rfl, _, _, _, [], _, [], hW', trodAll_mk1 (shut_bool Try.underlying4 _), (trodAll_cons_mk (shut_int Try.underlying3 w0) (trodAll_cons_mk (Below.trod (show laidOutB Try.prog = true by kernel_rfl) (by kernel_rfl) (of_decide_eq_true (by kernel_rfl)) h1k bel (fun x hx => hlt x (List.mem_append_left _ hx))) (trodAll_cons_mk (Below.trod (show laidOutB Try.prog = true by kernel_rfl) (by kernel_rfl) (of_decide_eq_true (by kernel_rfl)) h2k bel (fun x hx => hlt x (List.mem_append_right _ hx))) trodAll_mk0))), rfl, bel.frame _, fun h => by cases h⟩
theorem over : Rows.heapSameRow.holds Try.pinned (OpenSpec.ofChange Rows.heapSameSpec) :=
  OpenClaim.holds_of_wide 11 Try.f11 rfl rfl rfl rfl rfl rfl rfl ⟨rfl, rfl, rfl, rfl, rfl⟩ rfl rfl rfl rfl rfl (by kernel_rfl) Try.func11 (by kernel_rfl)
    (of_decide_eq_true (by kernel_rfl)) (by unfold Func.isWrapper; first | (rw [if_pos (by decide +kernel)]; kernel_rfl) | (rw [if_neg (by decide +kernel)]; exact ⟨rfl, rfl⟩))
    (fun os started H enc _ => lifted os started H enc)
end Go.Proofs.Ytgimcpnelogadaa.heapSame
namespace Go.Proofs.Ytgimcpnelogadaa
/-- HeapSame, as it is stated. -/
theorem heapSame_said : Rows.HeapSameSaid := heapSame.over
end Go.Proofs.Ytgimcpnelogadaa
