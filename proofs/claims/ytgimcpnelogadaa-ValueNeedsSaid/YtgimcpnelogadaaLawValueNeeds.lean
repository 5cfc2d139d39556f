/- ValueNeeds: for every input the law returns true; the arguments read behind the call as before. No condition. -/
import Derived.Test.YtgimcpnelogadaaRows
import Derived.Test.YtgimcpnelogadaaVaL
import Derived.Carry
import Derived.WalkKit
import Derived.ProofKit
import Derived.OpenShut
import Derived.ChangeOld
import Derived.Below
import Derived.SizedLaws
import Derived.Lib.SmallJoins
import Derived.ChangeSlices
import Derived.Deep.Slices
namespace Go.Proofs.Ytgimcpnelogadaa.Va
open Go.RowKit Go.ChangeShapes Go.WideShapes
set_option linter.unusedVariables false
section
variable {H : Type} {enc : TypeId × Value → H} {P : Program} {w : World} {base n : Nat} {sp : Nat → Bool} {hd : Bool}
theorem field_one {fs : Array Field} {cs : List Value} {xs : List (DataW H × List MemPlace)} (hlen : cs.length = fs.size) (hxs : xs.length = fs.size)
    (hf : ∀ (i : Nat) (f : Field), fs[i]? = some f → DataW.trod enc P w base sp hd n f.type ((cs.drop f.offset).take (P.cellsOf f.type)) = xs[i]?)
    {k : Nat} {f : Field} (h : fs[k]? = some f) (ho : f.offset = k) (hc : P.cellsOf f.type = 1) : ∃ v x, cs[k]? = some v ∧ DataW.trod enc P w base sp hd n f.type [v] = some x := by
  have hk : k < fs.size := (Array.getElem?_eq_some_iff.1 h).1
  have := hf k f h
  rw [ho, hc, List.getElem?_eq_getElem (by omega : k < xs.length)] at this
  rw [List.drop_eq_getElem_cons (by omega : k < cs.length), List.take_succ_cons, List.take_zero] at this
  exact ⟨cs[k]'(by omega), xs[k]'(by omega), List.getElem?_eq_getElem _, this⟩
end
theorem fieldsValue : ∃ f0 f1 f2 f3 f4 : Field, Try.prog.underlying 83 = some (.struct #[f0, f1, f2, f3, f4]) ∧
    (f0.offset = 0 ∧ Try.prog.cellsOf f0.type = 1 ∧ Try.prog.underlying f0.type = some (.int .i64)) ∧ (f1.offset = 1 ∧ Try.prog.cellsOf f1.type = 1 ∧ Try.prog.underlying f1.type = some (.int .i64)) ∧
    (f2.offset = 2 ∧ Try.prog.cellsOf f2.type = 1 ∧ Try.prog.underlying f2.type = some (.int .u64)) ∧ (f3.offset = 3 ∧ Try.prog.cellsOf f3.type = 1 ∧ Try.prog.underlying f3.type = some .string) ∧
    (f4.offset = 4 ∧ Try.prog.cellsOf f4.type = 1 ∧ Try.prog.underlying f4.type = some (.int .u64)) := by
  refine ⟨_, _, _, _, _, Try.underlying83, ?_, ?_, ?_, ?_, ?_⟩ <;> exact ⟨rfl, by kernel_rfl, by kernel_rfl⟩
theorem value_read {H : Type} {enc : TypeId × Value → H} {w : World} {base fuel : Nat} {sp : Nat → Bool} {hd : Bool} {cs : List Value} {x : DataW H × List MemPlace} (h : DataW.trod enc Try.prog w base sp hd fuel 83 cs = some x) :
    ∃ (k i b : Int) (tx : ByteArray) (r : Int), cs = [.int .i64 k, .int .i64 i, .int .u64 b, .string tx, .int .u64 r] ∧ 0 ≤ b ∧ b < 18446744073709551616 := by
  obtain ⟨f0, f1, f2, f3, f4, he, ⟨o0, c0, u0⟩, ⟨o1, c1, u1⟩, ⟨o2, c2, u2⟩, ⟨o3, c3, u3⟩, ⟨o4, c4, u4⟩⟩ := fieldsValue
  obtain ⟨xs, k', hk, hxy, hl2, hxl, hf⟩ := DataW.trod_struct he h
  have hC : Try.prog.cellsOf 83 = 5 := by kernel_rfl
  have hlen : cs.length = 5 := hl2.trans hC
  obtain ⟨v0, y0, e0, t0⟩ := field_one (hlen.trans rfl) hxl hf (k := 0) rfl o0 c0
  obtain ⟨v1, y1, e1, t1⟩ := field_one (hlen.trans rfl) hxl hf (k := 1) rfl o1 c1
  obtain ⟨v2, y2, e2, t2⟩ := field_one (hlen.trans rfl) hxl hf (k := 2) rfl o2 c2
  obtain ⟨v3, y3, e3, t3⟩ := field_one (hlen.trans rfl) hxl hf (k := 3) rfl o3 c3
  obtain ⟨v4, y4, e4, t4⟩ := field_one (hlen.trans rfl) hxl hf (k := 4) rfl o4 c4
  obtain ⟨z0, q0, _⟩ := DataW.trod_int u0 t0
  obtain ⟨z1, q1, _⟩ := DataW.trod_int u1 t1
  obtain ⟨z2, q2, _, w2⟩ := DataW.trod_int u2 t2
  obtain ⟨z3, q3, _⟩ := DataW.trod_string u3 t3
  obtain ⟨z4, q4, _⟩ := DataW.trod_int u4 t4
  simp only [List.cons.injEq, and_true] at q0 q1 q2 q3 q4
  subst q0 q1 q2 q3 q4
  have hb : 0 ≤ z2 ∧ z2 < 18446744073709551616 := by
    simp [Lit.wf, IntKind.min, IntKind.max, IntKind.signed, IntKind.bits] at w2
    omega
  refine ⟨z0, z1, z2, z3, z4, ?_, hb⟩
  apply List.ext_getElem?
  intro i
  match i with
  | 0 => exact e0
  | 1 => exact e1
  | 2 => exact e2
  | 3 => exact e3
  | 4 => exact e4
  | j + 5 => rw [List.getElem?_eq_none (by omega), List.getElem?_eq_none (by simp)]
end Go.Proofs.Ytgimcpnelogadaa.Va
namespace Go.Proofs.Ytgimcpnelogadaa.valueNeeds
open Go.ChangeShapes Go.WideShapes Go.ChangeAt Go.RowKit Go.Joins
set_option linter.unusedVariables false
set_option maxRecDepth 100000 in
theorem lifted (os : Os) (started : os.Started) (H : Type) (enc : TypeId × Value → H) :
    ReturnsInHanded {} Try.checked os 16 .any (Rows.valueNeedsSpec.pre6 enc Try.prog Try.f16 [] false) (Rows.valueNeedsSpec.post enc Try.prog Try.f16 false true false false) := by
  refine returnsInHanded_of_change (C := Try.checked) (show ownKnob Try.prog.godebug = none by kernel_rfl) started (by kernel_rfl) Try.func16
    (ChangeSpec.witness6 (enc := enc) (C := Try.checked) false ⟨#[], #[.agg #[.int .i64 0, .int .i64 0, .int .u64 0, .string { data := #[] }, .int .u64 0], .int .i64 0], []⟩ 8 (by kernel_rfl) (by kernel_rfl) (by kernel_rfl) (by kernel_rfl)) ?_
  intro W base args ds gs before hval0 hW hcnd _
  have hval : ∀ (j : Nat) t v, Try.f16.params[j]? = some t → args[j]? = some v → Value.okWide Try.prog W .any base t v := hval0
  have hW' := hW
  obtain ⟨p, q, hA0, hV, rfl, hfz, hnd⟩ := hW
  have hA : DataW.TrodAll enc Try.prog W 0 (fun _ => true) true Try.f16.params.toList args.toList ds p := hA0
  rw [Try.params16] at hA hval
  obtain ⟨v0, vs0, d0, ds0, p0, q0, hargs, rfl, rfl, h0, r0⟩ := trodAll_cons hA
  obtain ⟨v1, vs1, d1, ds1, p1, q1, rfl, rfl, rfl, h1, r1⟩ := trodAll_cons r0
  obtain ⟨rfl, rfl, rfl⟩ := trodAll_nil r1
  obtain rfl : args = #[v0, v1] := by cases args; simp_all
  obtain ⟨rfl, rfl⟩ := trodVars_none hV
  obtain ⟨a1, rfl, rfl, rfl, w1⟩ := open_int Try.underlying3 (hval 1 3 v1 rfl rfl) h1
  have h0k := h0
  obtain ⟨fuel0, hf0⟩ := h0
  obtain ⟨fs, hfs⟩ : ∃ fs, Try.prog.underlying 83 = some (.struct fs) := ⟨_, Try.underlying83⟩
  obtain ⟨cs, rfl, hsz⟩ := Go.WideShapes.okWide_struct hfs (hval 0 83 v0 rfl rfl)
  obtain ⟨k, i, b, tx, r, hcs, hb⟩ := Va.value_read hf0
  have hcs2 : cs = #[.int .i64 k, .int .i64 i, .int .u64 b, .string tx, .int .u64 r] := by
    have : cs.toList = _ := hcs
    exact Array.toList_inj.1 (this.trans rfl)
  subst hcs2
  have hlt : ∀ x ∈ p0, x.block < W.heap.size := fun x hx => by simpa using hW'.lt x (by simpa using hx)
  clear hA0 hval0
  refine (Va.needs_walk k i b tx r a1 hb).mono fun e W' ⟨he, chg⟩ => ?_
  have bel := chg.below
  subst he
  exact ⟨_, rfl, _, _, _, [], _, [], hW', trodAll_mk1 (shut_bool Try.underlying4 _), (trodAll_cons_mk (Below.trod (show laidOutB Try.prog = true by kernel_rfl) (by kernel_rfl) (of_decide_eq_true (by kernel_rfl)) h0k bel (fun x hx => hlt x hx)) (trodAll_cons_mk (shut_int Try.underlying3 w1) trodAll_mk0)), rfl, bel.frame _, fun h => by cases h⟩
theorem over : Rows.valueNeedsRow.holds Try.pinned (OpenSpec.ofChange Rows.valueNeedsSpec) :=
  OpenClaim.holds_of_wide 16 Try.f16 rfl rfl rfl rfl rfl rfl rfl ⟨rfl, rfl, rfl, rfl, rfl⟩ rfl rfl rfl rfl rfl (by kernel_rfl) Try.func16 (by kernel_rfl)
    (of_decide_eq_true (by kernel_rfl)) (by unfold Func.isWrapper; first | (rw [if_pos (by decide +kernel)]; kernel_rfl) | (rw [if_neg (by decide +kernel)]; exact ⟨rfl, rfl⟩))
    (fun os started H enc _ => lifted os started H enc)
end Go.Proofs.Ytgimcpnelogadaa.valueNeeds
namespace Go.Proofs.Ytgimcpnelogadaa
/-- ValueNeeds, as it is stated. -/
theorem valueNeeds_said : Rows.ValueNeedsSaid := valueNeeds.over
end Go.Proofs.Ytgimcpnelogadaa
