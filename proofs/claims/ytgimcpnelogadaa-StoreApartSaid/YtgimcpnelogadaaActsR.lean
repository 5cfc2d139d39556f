/- A []Act argument, as it reads. -/
import Derived.Test.YtgimcpnelogadaaPlA
import Derived.ChangeSlices
import Derived.OpenShut
import Derived.SizedLaws
import Derived.Deep.Slices
import Derived.Deep.Grids
namespace Go.Proofs.Ytgimcpnelogadaa.Sto
open Go.RowKit Go.ChangeShapes Go.WideShapes
set_option linter.unusedVariables false
instance : Inhabited ActR := ⟨⟨0, 0, 0, 0, 0, 0⟩⟩
section
variable {H : Type} {enc : TypeId × Value → H} {P : Program} {w : World} {base n : Nat} {sp : Nat → Bool} {hd : Bool}
theorem field_int {fs : Array Field} {cs : List Value} {xs : List (DataW H × List MemPlace)} (hlen : cs.length = fs.size) (hxs : xs.length = fs.size)
    (hf : ∀ (i : Nat) (f : Field), fs[i]? = some f → DataW.trod enc P w base sp hd n f.type ((cs.drop f.offset).take (P.cellsOf f.type)) = xs[i]?)
    {k : Nat} {f : Field} {kd : IntKind} (h : fs[k]? = some f) (ho : f.offset = k) (hc : P.cellsOf f.type = 1) (hu : P.underlying f.type = some (.int kd)) : ∃ z, cs[k]? = some (.int kd z) ∧ (Lit.int kd z).wf = true := by
  have hk : k < fs.size := (Array.getElem?_eq_some_iff.1 h).1
  have := hf k f h
  rw [ho, hc, List.getElem?_eq_getElem (by omega : k < xs.length)] at this
  obtain ⟨z, e, _, hw⟩ := DataW.trod_int hu this
  refine ⟨z, ?_, hw⟩
  have h2 := congrArg (fun l => l[0]?) e
  simpa [List.getElem?_take, List.getElem?_drop] using h2
end
theorem bounds_u64 {n : Int} (h : (Lit.int .u64 n).wf = true) : 0 ≤ n ∧ n < 18446744073709551616 := by
  simp [Lit.wf, IntKind.min, IntKind.max, IntKind.signed, IntKind.bits] at h
  omega
theorem fieldsAct : ∃ f0 f1 f2 f3 f4 f5 : Field, Try.prog.underlying 46 = some (.struct #[f0, f1, f2, f3, f4, f5]) ∧
    (f0.offset = 0 ∧ Try.prog.cellsOf f0.type = 1 ∧ Try.prog.underlying f0.type = some (.int .i64)) ∧ (f1.offset = 1 ∧ Try.prog.cellsOf f1.type = 1 ∧ Try.prog.underlying f1.type = some (.int .i64)) ∧
    (f2.offset = 2 ∧ Try.prog.cellsOf f2.type = 1 ∧ Try.prog.underlying f2.type = some (.int .i64)) ∧ (f3.offset = 3 ∧ Try.prog.cellsOf f3.type = 1 ∧ Try.prog.underlying f3.type = some (.int .i64)) ∧
    (f4.offset = 4 ∧ Try.prog.cellsOf f4.type = 1 ∧ Try.prog.underlying f4.type = some (.int .i64)) ∧ (f5.offset = 5 ∧ Try.prog.cellsOf f5.type = 1 ∧ Try.prog.underlying f5.type = some (.int .u64)) := by
  refine ⟨_, _, _, _, _, _, Try.underlying46, ?_, ?_, ?_, ?_, ?_, ?_⟩ <;> exact ⟨rfl, by kernel_rfl, by kernel_rfl⟩
theorem acts_read {H : Type} {enc : TypeId × Value → H} {w : World} {base n c fuel : Nat} {B : Option Addr} {x : DataW H × List MemPlace} (h : DataW.trod enc Try.prog w base (fun _ => true) true fuel 38 #[.slice B n c].toList = some x) : ∃ l : List ActR, n = l.length ∧ Acts w B c l := by
  rcases Go.Deep.open_slice Try.underlying38 h with ⟨hcs, hx⟩ | ⟨a, len, cap, m, k, D, Pl, hcs, _, hl, hm, hmm, hx, hel⟩
  · simp at hcs
    obtain ⟨rfl, rfl, rfl⟩ := hcs
    exact ⟨[], rfl, ⟨by simp, by simp, by simp, fun i hi => by simp at hi⟩⟩
  · simp at hcs
    obtain ⟨rfl, rfl, rfl⟩ := hcs
    simp only [if_true] at hmm
    subst hmm
    have hC : Try.prog.cellsOf 46 = 6 := by kernel_rfl
    rw [hC] at hel
    have each : ∀ i, i < m → ∃ r : ActR, r.ok ∧ w.cell? (a.add (i * 6)) = some (.int .i64 r.what) ∧ w.cell? ((a.add (i * 6)).add 1) = some (.int .i64 r.n) ∧ w.cell? ((a.add (i * 6)).add 2) = some (.int .i64 r.id) ∧
        w.cell? ((a.add (i * 6)).add 3) = some (.int .i64 r.off) ∧ w.cell? ((a.add (i * 6)).add 4) = some (.int .i64 r.width) ∧ w.cell? ((a.add (i * 6)).add 5) = some (.int .u64 (r.x : Int)) := by
      intro i hi
      obtain ⟨cs, h1, h2⟩ := hel i hi
      obtain ⟨_, hlen, hcell⟩ := World.cells?_some h1
      obtain ⟨f0, f1, f2, f3, f4, f5, he, ⟨o0, c0, u0⟩, ⟨o1, c1, u1⟩, ⟨o2, c2, u2⟩, ⟨o3, c3, u3⟩, ⟨o4, c4, u4⟩, ⟨o5, c5, u5⟩⟩ := fieldsAct
      obtain ⟨xs, k', hk, hxy, hl2, hxl, hf⟩ := DataW.trod_struct he h2
      obtain ⟨z0, e0, w0⟩ := field_int (hlen.trans rfl) hxl hf (k := 0) rfl o0 c0 u0
      obtain ⟨z1, e1, w1⟩ := field_int (hlen.trans rfl) hxl hf (k := 1) rfl o1 c1 u1
      obtain ⟨z2, e2, w2⟩ := field_int (hlen.trans rfl) hxl hf (k := 2) rfl o2 c2 u2
      obtain ⟨z3, e3, w3⟩ := field_int (hlen.trans rfl) hxl hf (k := 3) rfl o3 c3 u3
      obtain ⟨z4, e4, w4⟩ := field_int (hlen.trans rfl) hxl hf (k := 4) rfl o4 c4 u4
      obtain ⟨z5, e5, w5⟩ := field_int (hlen.trans rfl) hxl hf (k := 5) rfl o5 c5 u5
      have b5 := bounds_u64 w5
      have g : ∀ (j : Nat) (v : Value), j < 6 → cs[j]? = some v → w.cell? ((a.add (i * 6)).add j) = some v := fun j v hj hv => by
        rw [hcell j (by omega), hv]
      exact ⟨⟨z0, z1, z2, z3, z4, z5.toNat⟩, ⟨bounds_i64 w0, bounds_i64 w1, bounds_i64 w2, bounds_i64 w3, bounds_i64 w4, by show z5.toNat < _; omega⟩, by simpa [Addr.add] using g 0 _ (by decide) e0, g 1 _ (by decide) e1, g 2 _ (by decide) e2, g 3 _ (by decide) e3, g 4 _ (by decide) e4,
        by rw [show ((z5.toNat : Nat) : Int) = z5 by omega]; exact g 5 _ (by decide) e5⟩
    obtain ⟨q, hq⟩ := Go.Deep.choose_lt each
    have hadd : ∀ (i j : Nat), 0 < j → (a.add (i * 6)).add j = ⟨(a.add (i * 6)).block, (a.add (i * 6)).off + j, none⟩ := fun i j hj => by
      rw [Addr.add, if_neg (by omega)]
    refine ⟨(List.range n).map q, by simp, ⟨by simpa using hl, by simpa only [maxLen] using hm, fun r hr => ?_, fun i hi => ?_⟩⟩
    · obtain ⟨i, hi, rfl⟩ := List.mem_map.1 hr
      exact (hq i (by have := List.mem_range.1 hi; omega)).1
    · have hi' : i < n := by simpa using hi
      obtain ⟨_, h0, h1, h2, h3, h4, h5⟩ := hq i (by omega)
      rw [hadd i 1 (by omega)] at h1
      rw [hadd i 2 (by omega)] at h2
      rw [hadd i 3 (by omega)] at h3
      rw [hadd i 4 (by omega)] at h4
      rw [hadd i 5 (by omega)] at h5
      simp only [List.getElem_map, List.getElem_range]
      exact ⟨a, rfl, h0, h1, h2, h3, h4, h5⟩
end Go.Proofs.Ytgimcpnelogadaa.Sto
