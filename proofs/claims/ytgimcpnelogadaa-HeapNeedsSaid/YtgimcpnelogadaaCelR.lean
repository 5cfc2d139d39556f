/- An api.Cell argument, as it reads. -/
import Derived.Test.YtgimcpnelogadaaHpA
import Derived.ChangeSlices
import Derived.OpenShut
import Derived.SizedLaws
import Derived.Deep.Slices
namespace Go.Proofs.Ytgimcpnelogadaa.Hp
open Go.RowKit Go.ChangeShapes Go.WideShapes
set_option linter.unusedVariables false
section
variable {H : Type} {enc : TypeId × Value → H} {P : Program} {w : World} {base n : Nat} {sp : Nat → Bool} {hd : Bool}
theorem field_one {fs : Array Field} {cs : List Value} {xs : List (DataW H × List MemPlace)} (hlen : cs.length = fs.size) (hxs : xs.length = fs.size)
    (hf : ∀ (i : Nat) (f : Field), fs[i]? = some f → DataW.trod enc P w base sp hd n f.type ((cs.drop f.offset).take (P.cellsOf f.type)) = xs[i]?)
    {k : Nat} {f : Field} (h : fs[k]? = some f) (ho : f.offset = k) (hc : P.cellsOf f.type = 1) : ∃ v x, cs[k]? = some v ∧ DataW.trod enc P w base sp hd n f.type [v] = some x := by
  have hk : k < fs.size := (Array.getElem?_eq_some_iff.1 h).1
  have := hf k f h
  rw [ho, hc, List.getElem?_eq_getElem (by omega : k < xs.length)] at this
  rw [List.drop_eq_getElem_cons (by omega : k < cs.length), List.take_succ_cons, List.take_zero] at this
  exact ⟨cs[k]'(by omega), xs[k]'(by omega), List.getElem?_eq_getElem _, this⟩
theorem one_slice {e t : TypeId} (ht : P.underlying t = some (.slice e)) {v : Value} {x : DataW H × List MemPlace} (h : DataW.trod enc P w base sp hd n t [v] = some x) : ∃ a m c, v = .slice a m c := by
  rcases DataW.trod_slice ht h with ⟨e, _⟩ | ⟨a, m, c, _, _, _, _, e, _⟩
  · simp at e; exact ⟨_, _, _, e⟩
  · simp at e; exact ⟨_, _, _, e⟩
end
theorem fieldsCell : ∃ f0 f1 f2 f3 f4 f5 f6 f7 f8 : Field, Try.prog.underlying 60 = some (.struct #[f0, f1, f2, f3, f4, f5, f6, f7, f8]) ∧
    (f0.offset = 0 ∧ Try.prog.cellsOf f0.type = 1 ∧ Try.prog.underlying f0.type = some (.int .i64)) ∧ (f1.offset = 1 ∧ Try.prog.cellsOf f1.type = 1 ∧ Try.prog.underlying f1.type = some .bool) ∧
    (f2.offset = 2 ∧ Try.prog.cellsOf f2.type = 1 ∧ Try.prog.underlying f2.type = some (.int .i64)) ∧ (f3.offset = 3 ∧ Try.prog.cellsOf f3.type = 1 ∧ Try.prog.underlying f3.type = some .string) ∧
    (f4.offset = 4 ∧ Try.prog.cellsOf f4.type = 1 ∧ Try.prog.underlying f4.type = some (.slice 5)) ∧ (f5.offset = 5 ∧ Try.prog.cellsOf f5.type = 1 ∧ Try.prog.underlying f5.type = some (.slice 22)) ∧
    (f6.offset = 6 ∧ Try.prog.cellsOf f6.type = 1 ∧ Try.prog.underlying f6.type = some (.int .u64)) ∧ (f7.offset = 7 ∧ Try.prog.cellsOf f7.type = 1 ∧ Try.prog.underlying f7.type = some (.int .i64)) ∧
    (f8.offset = 8 ∧ Try.prog.cellsOf f8.type = 1 ∧ Try.prog.underlying f8.type = some (.int .i64)) := by
  refine ⟨_, _, _, _, _, _, _, _, _, Try.underlying60, ?_, ?_, ?_, ?_, ?_, ?_, ?_, ?_, ?_⟩ <;> exact ⟨rfl, by kernel_rfl, by kernel_rfl⟩
theorem cell_read {H : Type} {enc : TypeId × Value → H} {w : World} {base fuel : Nat} {sp : Nat → Bool} {hd : Bool} {cs : List Value} {x : DataW H × List MemPlace} (h : DataW.trod enc Try.prog w base sp hd fuel 60 cs = some x) :
    ∃ (k : Int) (view : Bool) (i : Int) (tx : ByteArray) (a1 a2 : Option Addr) (n1 c1 n2 c2 : Nat) (b f l : Int), cs = [.int .i64 k, .bool view, .int .i64 i, .string tx, .slice a1 n1 c1, .slice a2 n2 c2, .int .u64 b, .int .i64 f, .int .i64 l] := by
  obtain ⟨f0, f1, f2, f3, f4, f5, f6, f7, f8, he, ⟨o0, c0, u0⟩, ⟨o1, c1, u1⟩, ⟨o2, c2, u2⟩, ⟨o3, c3, u3⟩, ⟨o4, c4, u4⟩, ⟨o5, c5, u5⟩, ⟨o6, c6, u6⟩, ⟨o7, c7, u7⟩, ⟨o8, c8, u8⟩⟩ := fieldsCell
  obtain ⟨xs, k', hk, hxy, hl2, hxl, hf⟩ := DataW.trod_struct he h
  have hC : Try.prog.cellsOf 60 = 9 := by kernel_rfl
  have hlen : cs.length = 9 := hl2.trans hC
  obtain ⟨v0, y0, e0, t0⟩ := field_one (hlen.trans rfl) hxl hf (k := 0) rfl o0 c0
  obtain ⟨v1, y1, e1, t1⟩ := field_one (hlen.trans rfl) hxl hf (k := 1) rfl o1 c1
  obtain ⟨v2, y2, e2, t2⟩ := field_one (hlen.trans rfl) hxl hf (k := 2) rfl o2 c2
  obtain ⟨v3, y3, e3, t3⟩ := field_one (hlen.trans rfl) hxl hf (k := 3) rfl o3 c3
  obtain ⟨v4, y4, e4, t4⟩ := field_one (hlen.trans rfl) hxl hf (k := 4) rfl o4 c4
  obtain ⟨v5, y5, e5, t5⟩ := field_one (hlen.trans rfl) hxl hf (k := 5) rfl o5 c5
  obtain ⟨v6, y6, e6, t6⟩ := field_one (hlen.trans rfl) hxl hf (k := 6) rfl o6 c6
  obtain ⟨v7, y7, e7, t7⟩ := field_one (hlen.trans rfl) hxl hf (k := 7) rfl o7 c7
  obtain ⟨v8, y8, e8, t8⟩ := field_one (hlen.trans rfl) hxl hf (k := 8) rfl o8 c8
  obtain ⟨z0, q0, _⟩ := DataW.trod_int u0 t0
  obtain ⟨z1, q1, _⟩ := DataW.trod_bool u1 t1
  obtain ⟨z2, q2, _⟩ := DataW.trod_int u2 t2
  obtain ⟨z3, q3, _⟩ := DataW.trod_string u3 t3
  obtain ⟨a4, n4, m4, q4⟩ := one_slice u4 t4
  obtain ⟨a5, n5, m5, q5⟩ := one_slice u5 t5
  obtain ⟨z6, q6, _⟩ := DataW.trod_int u6 t6
  obtain ⟨z7, q7, _⟩ := DataW.trod_int u7 t7
  obtain ⟨z8, q8, _⟩ := DataW.trod_int u8 t8
  simp only [List.cons.injEq, and_true] at q0 q1 q2 q3 q6 q7 q8
  subst q0 q1 q2 q3 q4 q5 q6 q7 q8
  refine ⟨z0, z1, z2, z3, a4, a5, n4, m4, n5, m5, z6, z7, z8, ?_⟩
  apply List.ext_getElem?
  intro i
  match i with
  | 0 => exact e0
  | 1 => exact e1
  | 2 => exact e2
  | 3 => exact e3
  | 4 => exact e4
  | 5 => exact e5
  | 6 => exact e6
  | 7 => exact e7
  | 8 => exact e8
  | j + 9 => rw [List.getElem?_eq_none (by omega), List.getElem?_eq_none (by simp)]
end Go.Proofs.Ytgimcpnelogadaa.Hp
