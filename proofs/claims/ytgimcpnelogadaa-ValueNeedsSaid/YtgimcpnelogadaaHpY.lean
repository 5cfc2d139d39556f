/- Chapter 6, plain: cells that lead nowhere, which a law keeps: numbers and cells. -/
import Derived.Test.YtgimcpnelogadaaBsC
namespace Go.Proofs.Ytgimcpnelogadaa.Hp
open Go.RowKit Go.Proofs.Ytgimcpnelogadaa.Mem Go.Proofs.Ytgimcpnelogadaa.Sto Go.Proofs.Ytgimcpnelogadaa.Wd
set_option linter.unusedVariables false
set_option linter.unusedSimpArgs false
theorem csum_one (f : Nat → Nat) (a : Nat) : ∀ N, ((List.range N).map fun n => if n = a then f n else 0).sum = if a < N then f a else 0
  | 0 => by simp
  | N + 1 => by
    rw [List.range_succ, List.map_append, List.sum_append, csum_one f a N]
    simp only [List.map_cons, List.map_nil, List.sum_cons, List.sum_nil]
    by_cases c : N = a
    · subst c; simp
    · by_cases d : a < N
      · rw [if_pos d, if_neg c, if_pos (by omega)]; rfl
      · rw [if_neg d, if_neg c, if_neg (by omega)]; rfl
theorem csum_two (f g : Nat → Nat) : ∀ l : List Nat, (l.map fun n => f n + g n).sum = (l.map f).sum + (l.map g).sum
  | [] => rfl
  | a :: l => by simp only [List.map_cons, List.sum_cons, csum_two f g l]; omega
theorem csum_pick (N : Nat) (f : Nat → Nat) : ∀ S : List Nat, S.Nodup → (∀ n ∈ S, n < N) → ((List.range N).map fun n => if n ∈ S then f n else 0).sum = (S.map f).sum
  | [], _, _ => by
    simp only [List.not_mem_nil, if_false, List.map_nil, List.sum_nil]
    induction List.range N with
    | nil => rfl
    | cons a l ih => simpa using ih
  | a :: S, hd, hl => by
    obtain ⟨h1, h2⟩ := List.nodup_cons.1 hd
    have e : ((List.range N).map fun n => if n ∈ a :: S then f n else 0) = (List.range N).map fun n => (if n = a then f n else 0) + (if n ∈ S then f n else 0) := List.map_congr_left fun n _ => by
      by_cases c : n = a
      · subst c; simp [h1]
      · simp [c]
    rw [e, csum_two, csum_one, csum_pick N f S h2 (fun n hn => hl n (List.mem_cons_of_mem _ hn)), if_pos (hl a (List.mem_cons_self ..))]
    rfl
/-- A cell without the Id of its extent. -/
def Cel.strip (c : Cel) : Cel := { c with ext := 0 }
/-- No word of it leads to a cell. -/
def Cel.leaf (c : Cel) : Prop := ∀ x ∈ c.refs, hdl x = none
def needL (L : List (Nat × Cel)) : Nat := (L.map fun q => q.2.need).sum
def hwC (L : List (Nat × Cel)) : List Nat := L.map fun q => hw q.1
/-- Of M the cells L are kept; all cells lead nowhere. -/
structure KeptC (M : List (Option MC)) (L : List (Nat × Cel)) : Prop where
  nodup : (L.map Prod.fst).Nodup
  at_ : ∀ q ∈ L, ∃ m, M[q.1]? = some (some m) ∧ m.c.strip = q.2
  leaf : ∀ m, some m ∈ M → m.c.leaf
section
variable {M : List (Option MC)} {L : List (Nat × Cel)} {R : List Nat} {B : List Bool}
theorem keptC_nil : KeptC [] [] := ⟨by simp, by simp, by simp⟩
theorem KeptC.sub {K : List (Nat × Cel)} (h : KeptC M L) (hs : K.Sublist L) : KeptC M K := ⟨h.nodup.sublist (hs.map _), fun q hq => h.at_ q (hs.subset hq), h.leaf⟩
theorem KeptC.perm {K : List (Nat × Cel)} (h : KeptC M L) (hs : L.Perm K) : KeptC M K := ⟨(hs.map Prod.fst).nodup_iff.1 h.nodup, fun q hq => h.at_ q (hs.mem_iff.2 hq), h.leaf⟩
theorem leaf_refs (h : KeptC M L) {n x : Nat} (hx : x ∈ (celsOf M).refs n) : hdl x = none := by
  unfold Cells.refs celsOf at hx
  rw [List.getElem?_map] at hx
  cases hm : M[n]? with
  | none => rw [hm] at hx; simp at hx
  | some o =>
    cases o with
    | none => rw [hm] at hx; simp at hx
    | some m =>
      rw [hm] at hx
      exact h.leaf m (List.mem_of_getElem? hm) x (by simpa using hx)
theorem KeptC.lt (h : KeptC M L) (hs : M.length ≤ 281474976710656) {q : Nat × Cel} (hq : q ∈ L) : q.1 < M.length ∧ q.1 < 281474976710656 := by
  obtain ⟨m, hm, _⟩ := h.at_ q hq
  have := (List.getElem?_eq_some_iff.1 hm).1
  omega
theorem at_none {x n : Nat} (hx : hdl x = none) : (celsOf M).at_ x ≠ some n := fun e => by
  have := (atM_at.1 e).1
  rw [hx] at this
  cases this
theorem keptC_rch (h : KeptC M L) (hs : M.length ≤ 281474976710656) (hR : ∀ x ∈ R, x ∈ hwC L ∨ hdl x = none) (hR2 : ∀ x ∈ hwC L, x ∈ R) (n : Nat) : Rch (celsOf M) R n ↔ n ∈ L.map Prod.fst := by
  constructor
  · intro hn
    cases hn with
    | root hw h1 =>
      rcases hR _ hw with e | e
      · obtain ⟨q, hq, rfl⟩ := List.mem_map.1 e
        have := (atM_at.1 h1).1
        rw [hdl_hw (h.lt hs hq).2] at this
        cases this
        exact List.mem_map_of_mem hq
      · exact absurd h1 (at_none e)
    | next _ hw h1 => exact absurd h1 (at_none (leaf_refs h hw))
  · intro hn
    obtain ⟨q, hq, rfl⟩ := List.mem_map.1 hn
    obtain ⟨m, hm, _⟩ := h.at_ q hq
    exact .root (hR2 _ (List.mem_map_of_mem hq)) (atM_at.2 ⟨hdl_hw (h.lt hs hq).2, m, hm⟩)
theorem need_at (h : KeptC M L) {q : Nat × Cel} (hq : q ∈ L) : (celsOf M).need q.1 = q.2.need := by
  obtain ⟨m, hm, hc⟩ := h.at_ q hq
  rw [← hc]
  simp only [Cells.need, celsOf, List.getElem?_map, hm, Option.map_some, Option.getD_some, Cel.strip]
theorem needL_eq (h : KeptC M L) : ((List.range (celsOf M).length).map fun n => if n ∈ L.map Prod.fst then (celsOf M).need n else 0).sum = needL L := by
  rw [csum_pick _ _ _ h.nodup (fun n hn => by
    obtain ⟨q, hq, rfl⟩ := List.mem_map.1 hn
    obtain ⟨m, hm, _⟩ := h.at_ q hq
    have := (List.getElem?_eq_some_iff.1 hm).1
    simpa [celsOf] using this), List.map_map]
  unfold needL
  congr 1
  exact List.map_congr_left fun q hq => need_at h hq
theorem keptC_units (h : KeptC M L) (hs : M.length ≤ 281474976710656) (hR : ∀ x ∈ R, x ∈ hwC L ∨ hdl x = none) (hR2 : ∀ x ∈ hwC L, x ∈ R) (hB : Marks M R B) : unitsOf (celsOf M) B = needL L := by
  rw [← needL_eq h]
  unfold unitsOf
  congr 1
  refine List.map_congr_left fun n _ => ?_
  have : B.getD n false = true ↔ n ∈ L.map Prod.fst := (hB.2 n).trans (keptC_rch h hs hR hR2 n)
  by_cases c : n ∈ L.map Prod.fst
  · rw [if_pos c, if_pos (this.2 c)]
  · rw [if_neg c, if_neg (fun e => c (this.1 e))]
theorem keptC_used (h : KeptC M L) : needL L ≤ usedOf M := by
  rw [← needL_eq h, ← needs_sum]
  refine sum_le_of _ _ _ fun n _ => ?_
  split <;> omega
theorem keptC_sweep (h : KeptC M L) (hs : M.length ≤ 281474976710656) (hR : ∀ x ∈ R, x ∈ hwC L ∨ hdl x = none) (hR2 : ∀ x ∈ hwC L, x ∈ R) (hB : Marks M R B) : KeptC (swK B M.length M) L ∧ usedOf (swK B M.length M) = needL L := by
  refine ⟨⟨h.nodup, fun q hq => ?_, fun m hm => h.leaf m (sw_mem hm)⟩, by rw [sw_used, keptC_units h hs hR hR2 hB]⟩
  obtain ⟨m, hm, hc⟩ := h.at_ q hq
  have : B.getD q.1 false = true := (hB.2 _).2 ((keptC_rch h hs hR hR2 _).2 (List.mem_map_of_mem hq))
  refine ⟨m, ?_, hc⟩
  rw [swK_get, hm, Option.map_some, if_neg (by rw [this]; simp)]
theorem keptC_place {M' : List (Option MC)} {n : Nat} {m : MC} {c : Cel} (h : KeptC M L) (hP : Placed M n m M') (hm : m.c.strip = c) (hc : c.leaf) : KeptC M' L ∧ KeptC M' (L ++ [(n, c)]) := by
  have hn : n ∉ L.map Prod.fst := fun hn => by
    obtain ⟨q, hq, rfl⟩ := List.mem_map.1 hn
    obtain ⟨m', hm', _⟩ := h.at_ q hq
    cases hP with
    | set e => rw [hm'] at e; cases e
    | push e _ => rw [e] at hm'; simp at hm'
  have hz : ∀ x, some x ∈ M' → x.c.leaf := fun x hx => by
    rcases hP.mem.1 hx with rfl | hx
    · intro y hy
      refine hc y ?_
      rw [← hm]
      exact hy
    · exact h.leaf x hx
  have hold : ∀ q ∈ L, ∃ m, M'[q.1]? = some (some m) ∧ m.c.strip = q.2 := fun q hq => by
    obtain ⟨m', hm', hc⟩ := h.at_ q hq
    refine ⟨m', ?_, hc⟩
    cases hP with
    | set e => rw [List.getElem?_set_ne (fun e => hn (List.mem_map.2 ⟨q, hq, e.symm⟩))]; exact hm'
    | push e _ => rw [List.getElem?_append_left (List.getElem?_eq_some_iff.1 hm').1]; exact hm'
  have hnew : M'[n]? = some (some m) := by
    cases hP with
    | set e => rw [List.getElem?_set_self (List.getElem?_eq_some_iff.1 e).1]
    | push e _ => rw [e]; simp
  refine ⟨⟨h.nodup, hold, hz⟩, ⟨?_, fun q hq => ?_, hz⟩⟩
  · rw [List.map_append, List.nodup_append]
    refine ⟨h.nodup, by simp, fun a ha b hb e => ?_⟩
    simp at hb
    subst hb e
    exact hn ha
  · rcases List.mem_append.1 hq with hq | hq
    · exact hold q hq
    · simp at hq
      subst hq
      exact ⟨m, hnew, hm⟩
end
theorem needL_append (L K : List (Nat × Cel)) : needL (L ++ K) = needL L + needL K := by simp [needL, List.sum_append]
theorem hwC_append (L K : List (Nat × Cel)) : hwC (L ++ K) = hwC L ++ hwC K := by simp [hwC]
/-- What Put answers of a leaf, where L are the roots. -/
theorem kept_put {M : List (Option MC)} {L : List (Nat × Cel)} {rs : List Nat} {c : Cel} {units : Nat} {X : List (Option MC) → Prop} {Y : Nat → Prop} {Z : Prop} (hk : KeptC M L) (hs : M.length ≤ 281474976710656) (hc : c.leaf) (hbase : c.view = false) (hb0 : c.base = 0) (hR : ∀ x ∈ rs, x ∈ hwC L ∨ hdl x = none) (hR2 : ∀ x ∈ hwC L, x ∈ rs)
    (h : (∃ M5, ((usedOf M + c.need ≤ units ∧ M5 = M) ∨ (units < usedOf M + c.need ∧ ∃ B, Marks M (rs ++ (c.words ++ [c.base])) B ∧ M5 = swK B M.length M ∧ unitsOf (celsOf M) B + c.need ≤ units)) ∧ ∃ n m M', m.c.strip = c ∧ Placed M5 n m M' ∧ Y n ∧ X M') ∨
      (units < usedOf M + c.need ∧ ∃ B, Marks M (rs ++ (c.words ++ [c.base])) B ∧ units < unitsOf (celsOf M) B + c.need ∧ Z ∧ X (swK B M.length M))) :
    (needL L + c.need ≤ units ∧ ∃ n M', Y n ∧ X M' ∧ KeptC M' (L ++ [(n, c)])) ∨ (units < needL L + c.need ∧ Z ∧ ∃ M', X M' ∧ KeptC M' L) := by
  have hR' : ∀ x ∈ rs ++ (c.words ++ [c.base]), x ∈ hwC L ∨ hdl x = none := fun x hx => by
    simp only [List.mem_append, List.mem_singleton] at hx
    rcases hx with hx | hx | hx
    · exact hR x hx
    · exact .inr (hc x (List.mem_append_left _ hx))
    · exact .inr (by rw [hx, hb0]; rfl)
  have hR2' : ∀ x ∈ hwC L, x ∈ rs ++ (c.words ++ [c.base]) := fun x hx => List.mem_append_left _ (hR2 x hx)
  rcases h with ⟨M5, hM5, n, m, M', hm, hP, hy, hx⟩ | ⟨hlt, B, hB, hu, hz, hx⟩
  · have : needL L + c.need ≤ units ∧ KeptC M5 L := by
      rcases hM5 with ⟨hle, rfl⟩ | ⟨_, B, hB, rfl, hle⟩
      · have := keptC_used hk
        exact ⟨by omega, hk⟩
      · rw [keptC_units hk hs hR' hR2' hB] at hle
        exact ⟨hle, (keptC_sweep hk hs hR' hR2' hB).1⟩
    exact .inl ⟨this.1, n, M', hy, hx, (keptC_place this.2 hP hm hc).2⟩
  · rw [keptC_units hk hs hR' hR2' hB] at hu
    exact .inr ⟨hu, hz, _, hx, (keptC_sweep hk hs hR' hR2' hB).1⟩
end Go.Proofs.Ytgimcpnelogadaa.Hp
