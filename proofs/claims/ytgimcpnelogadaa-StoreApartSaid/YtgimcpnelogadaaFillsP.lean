/- Chapter 5: what StoreFills keeps from round to round. -/
import Derived.Test.YtgimcpnelogadaaStZ
import Derived.Test.YtgimcpnelogadaaStX
namespace Go.Proofs.Ytgimcpnelogadaa.Sto
open Go.RowKit Go.Proofs.Ytgimcpnelogadaa.Mem
set_option linter.unusedVariables false
set_option linter.unusedSimpArgs false

/-- A slice of whole numbers that reads as zs. -/
structure Ints (w : World) (B : Option Addr) (c : Nat) (zs : List Int) : Prop where
  cap : zs.length ≤ c
  small : c ≤ 9223372036854775807
  fit : ∀ z ∈ zs, I64 z
  get : ∀ i (h : i < zs.length), ∃ a : Addr, B = some a ∧ w.cell? (a.add i) = some (.int .i64 zs[i])
theorem Ints.chg {F : List Nat} {w w' : World} {B : Option Addr} {c : Nat} {zs : List Int} (h : Ints w B c zs) (hc : Chg F w w') (hF : ∀ a : Addr, B = some a → a.block ∉ F) : Ints w' B c zs :=
  ⟨h.cap, h.small, h.fit, fun i hi => by
    obtain ⟨a, e, hg⟩ := h.get i hi
    refine ⟨a, e, cell_chg hc hg ?_⟩
    rw [show (a.add i).block = a.block by unfold Addr.add; split <;> rfl]
    exact hF a e⟩

theorem elemInt : Elem Try.prog 3 1 8 (.int .i64 0) := Elem.of (by kernel_rfl) rfl (by intro v hv; simp [Value.cells] at hv; subst hv; rfl) (by decide)
def intsV (zs : List Int) : List Value := zs.map fun z => .int .i64 z
/-- Behind k rounds of the first loop: what the store holds, what 'n' reads as. -/
structure Fill (w : World) (zs : List Int) (p k : Nat) (F : List Nat) (nv : Value) (wr : World) : Prop where
  holds : Holds wr p F (fillL zs k) (320 * k)
  row : Row wr 3 1 nv k (intsV (zs.take k))
  chg : Chg [] w wr
  new : ∀ x ∈ F, w.heap.size ≤ x
  own : ∀ g, nv.ownBlock = some g → w.heap.size ≤ g ∧ g ∉ F
  fit : ∀ j < k, 0 ≤ zs.getD j 0 ∧ zs.getD j 0 ≤ 300

/-- In the later loops: 'n' reads as ns, what it has no -1 for lives. -/
structure Live (w : World) (zs : List Int) (p : Nat) (F : List Nat) (nv : Value) (ns : List Int) (wr : World) : Prop where
  len : ns.length = zs.length
  holds : Holds wr p F (liveL ns zs.length) (320 * zs.length)
  row : Row wr 3 1 nv zs.length (intsV ns)
  chg : Chg [] w wr
  fit : ∀ j < zs.length, -1 ≤ ns.getD j 0 ∧ ns.getD j 0 ≤ 300


theorem intsV_get (ns : List Int) {k : Nat} (hk : k < ns.length) : (intsV ns)[k]? = some (.int .i64 (ns.getD k 0)) := by
  rw [List.getD_eq_getElem?_getD, List.getElem?_eq_getElem hk]
  simp [intsV, List.getElem?_eq_getElem hk]
theorem intsV_set (ns : List Int) (k : Nat) (v : Int) : intsV (ns.set k v) = (intsV ns).set k (.int .i64 v) := by simp [intsV]
theorem liveL_total {ns : List Int} : ∀ {i : Nat}, (∀ j < i, -1 ≤ ns.getD j 0 ∧ ns.getD j 0 ≤ 300) → totalL (liveL ns i) ≤ 307 * i
  | 0, _ => by simp [liveL, totalL]
  | i + 1, h => by
    have ih := liveL_total (ns := ns) (i := i) fun j hj => h j (by omega)
    have hi := h i (Nat.lt_succ_self i)
    unfold liveL
    split
    · omega
    · have e : totalL ((i, List.replicate (ns.getD i 0).toNat (UInt8.ofNat (i + 1))) :: liveL ns i) = up (ns.getD i 0).toNat + totalL (liveL ns i) := by simp [totalL]
      have := up_le (ns.getD i 0).toNat
      rw [e]; omega
theorem liveL_length (ns : List Int) : ∀ i, (liveL ns i).length ≤ i
  | 0 => by simp [liveL]
  | i + 1 => by
    have := liveL_length ns i
    unfold liveL
    split
    · omega
    · simp; omega
/-- The block of 'n'. -/
theorem Live.cell {w wr : World} {zs ns : List Int} {p : Nat} {F : List Nat} {nv : Value} (h : Live w zs p F nv ns wr) {k : Nat} (hk : k < zs.length) :
    ∃ g cap rest, nv = .slice (some ⟨g, 0, none⟩) zs.length cap ∧ Blk wr g 3 (intsV ns ++ rest) ∧ wr.cell? ⟨g, k, none⟩ = some (.int .i64 (ns.getD k 0)) ∧ wr.frozen? ⟨g, k, none⟩ = false := by
  rcases h.row.cases with ⟨h1, h2, _⟩ | ⟨g, cap, rest, h1, hb, _⟩
  · omega
  · exact ⟨g, cap, rest, h1, hb, hb.cellAt (List.getElem?_append_left_some (b := rest) (intsV_get ns (by rw [h.len]; exact hk))), hb.frozen k⟩
theorem Live.form {w wr : World} {zs ns : List Int} {p : Nat} {F : List Nat} {nv : Value} (h : Live w zs p F nv ns wr) : ∃ a cap, nv = .slice a zs.length cap := Row_form h.row
/-- The store turns. -/
theorem Live.turn {w wr w' : World} {zs ns : List Int} {p : Nat} {F : List Nat} {nv : Value} (h : Live w zs p F nv ns wr) (hown : ∀ g, nv.ownBlock = some g → w.heap.size ≤ g ∧ g ∉ F) (hnew : ∀ x ∈ F, w.heap.size ≤ x)
    (hh : Holds w' p F (liveL ns zs.length) (320 * zs.length)) (hc : Chg F wr w') : Live w zs p F nv ns w' :=
  ⟨h.len, hh, h.row.chg hc (fun g hg => (hown g hg).2), h.chg.then hc (fun x hx => .inr (hnew x hx)), h.fit⟩
/-- One is given back, and marked. -/
theorem Live.gave {w wr w' : World} {zs ns : List Int} {p g cap k : Nat} {F : List Nat} (h : Live w zs p F (.slice (some ⟨g, 0, none⟩) zs.length cap) ns wr) (hown : w.heap.size ≤ g ∧ g ∉ F) (hnew : ∀ x ∈ F, w.heap.size ≤ x) (hk : k < zs.length)
    (hh : Holds w' p F (liveL (ns.set k (-1)) zs.length) (320 * zs.length)) (hc : Chg F wr w') : Live w zs p F (.slice (some ⟨g, 0, none⟩) zs.length cap) (ns.set k (-1)) (w'.setCell ⟨g, k, none⟩ (.int .i64 (-1))) := by
  have hr := h.row.chg hc (fun g' hg => by cases hg; exact hown.2)
  refine ⟨by rw [List.length_set]; exact h.len, hh.chg ((Chg.refl [g] w').setCell (p := ⟨g, k, none⟩) (.inl (by simp)) _) (fun x hx hm => by simp at hm; exact hown.2 (hm ▸ hx)), ?_, (h.chg.then hc (fun x hx => .inr (hnew x hx))).setCell (p := ⟨g, k, none⟩) (.inr hown.1) _, fun j hj => ?_⟩
  · rcases hr.cases with ⟨h1, _⟩ | ⟨g', cap', rest, h1, hb, h2, h3, h4⟩
    · cases h1
    · cases h1
      have hl := h.row.length
      have e : (intsV ns ++ rest).set k (.int .i64 (-1)) = intsV (ns.set k (-1)) ++ rest := by rw [intsV_set, List.set_append_left]; omega
      have hb' := hb.set k (.int .i64 (-1))
      rw [e] at hb'
      refine Row.mk hb' (by rw [intsV_set, List.length_set]; exact hl) h2 h3 ?_
      rw [← e, List.length_set]; exact h4
  · have := h.fit j hj
    rw [getD_set _ _ _ _ (by rw [h.len]; exact hk)]
    split <;> omega
end Go.Proofs.Ytgimcpnelogadaa.Sto
