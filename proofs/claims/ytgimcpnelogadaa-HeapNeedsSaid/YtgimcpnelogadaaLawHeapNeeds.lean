/- HeapNeeds: for every input the law returns true; the arguments read behind the call as before. No condition. -/
import Derived.Test.YtgimcpnelogadaaRows
import Derived.Test.YtgimcpnelogadaaHpN
import Derived.Test.YtgimcpnelogadaaCelR
import Derived.Carry
import Derived.WalkKit
import Derived.ProofKit
import Derived.OpenShut
import Derived.ChangeOld
import Derived.Below
import Derived.SizedLaws
import Derived.Lib.SmallJoins
namespace Go.Proofs.Ytgimcpnelogadaa.heapNeeds
open Go.ChangeShapes Go.WideShapes Go.ChangeAt Go.RowKit Go.Joins
set_option linter.unusedVariables false
set_option maxRecDepth 100000 in
theorem lifted (os : Os) (started : os.Started) (H : Type) (enc : TypeId × Value → H) :
    ReturnsInHanded {} Try.checked os 8 .any (Rows.heapNeedsSpec.pre6 enc Try.prog Try.f8 [] false) (Rows.heapNeedsSpec.post enc Try.prog Try.f8 false true false false) := by
  refine returnsInHanded_of_change (C := Try.checked) (show ownKnob Try.prog.godebug = none by kernel_rfl) started (by kernel_rfl) Try.func8
    (ChangeSpec.witness6 (enc := enc) (C := Try.checked) false ⟨#[], #[.agg #[.int .i64 0, .bool false, .int .i64 0, .string { data := #[] }, .slice none 0 0, .slice none 0 0, .int .u64 0, .int .i64 0, .int .i64 0]], []⟩ 8 (by kernel_rfl) (by kernel_rfl) (by kernel_rfl) (by kernel_rfl)) ?_
  intro W base args ds gs before hval0 hW hcnd _
  have hval : ∀ (j : Nat) t v, Try.f8.params[j]? = some t → args[j]? = some v → Value.okWide Try.prog W .any base t v := hval0
  have hW' := hW
  obtain ⟨p, q, hA0, hV, rfl, hfz, hnd⟩ := hW
  have hA : DataW.TrodAll enc Try.prog W 0 (fun _ => true) true Try.f8.params.toList args.toList ds p := hA0
  rw [Try.params8] at hA hval
  obtain ⟨v0, vs0, d0, ds0, p0, q0, hargs, rfl, rfl, h0, r0⟩ := trodAll_cons hA
  obtain ⟨rfl, rfl, rfl⟩ := trodAll_nil r0
  obtain rfl : args = #[v0] := by cases args; simp_all
  obtain ⟨rfl, rfl⟩ := trodVars_none hV
  have h0k := h0
  obtain ⟨fuel0, hf0⟩ := h0
  obtain ⟨fs, hfs⟩ : ∃ fs, Try.prog.underlying 60 = some (.struct fs) := ⟨_, Try.underlying60⟩
  obtain ⟨cs, rfl, hsz⟩ := Go.WideShapes.okWide_struct hfs (hval 0 60 v0 rfl rfl)
  obtain ⟨k, view, i, tx, a1, a2, n1, c1, n2, c2, b, f, l, hcs⟩ := Hp.cell_read hf0
  have hcs2 : cs = #[.int .i64 k, .bool view, .int .i64 i, .string tx, .slice a1 n1 c1, .slice a2 n2 c2, .int .u64 b, .int .i64 f, .int .i64 l] := by
    have : cs.toList = _ := hcs
    exact Array.toList_inj.1 (this.trans rfl)
  subst hcs2
  have hlt : ∀ x ∈ p0, x.block < W.heap.size := fun x hx => by simpa using hW'.lt x (by rw [List.append_nil, List.append_nil]; exact hx)
  clear hA0 hval0
  refine (Hp.needs_walk k view i tx a1 a2 n1 c1 n2 c2 b f l W).mono fun e W' ⟨he, bel⟩ => ?_
  subst he
  exact ⟨_, rfl, _, _, _, [], _, [], hW', trodAll_mk1 (shut_bool Try.underlying4 _), (trodAll_cons_mk (Below.trod (show laidOutB Try.prog = true by kernel_rfl) (by kernel_rfl) (of_decide_eq_true (by kernel_rfl)) h0k bel (fun x hx => hlt x hx)) trodAll_mk0), rfl, bel.frame _, fun h => by cases h⟩
theorem over : Rows.heapNeedsRow.holds Try.pinned (OpenSpec.ofChange Rows.heapNeedsSpec) :=
  OpenClaim.holds_of_wide 8 Try.f8 rfl rfl rfl rfl rfl rfl rfl ⟨rfl, rfl, rfl, rfl, rfl⟩ rfl rfl rfl rfl rfl (by kernel_rfl) Try.func8 (by kernel_rfl)
    (of_decide_eq_true (by kernel_rfl)) (by unfold Func.isWrapper; first | (rw [if_pos (by decide +kernel)]; kernel_rfl) | (rw [if_neg (by decide +kernel)]; exact ⟨rfl, rfl⟩))
    (fun os started H enc _ => lifted os started H enc)
end Go.Proofs.Ytgimcpnelogadaa.heapNeeds
namespace Go.Proofs.Ytgimcpnelogadaa
/-- HeapNeeds, as it is stated. -/
theorem heapNeeds_said : Rows.HeapNeedsSaid := heapNeeds.over
end Go.Proofs.Ytgimcpnelogadaa
