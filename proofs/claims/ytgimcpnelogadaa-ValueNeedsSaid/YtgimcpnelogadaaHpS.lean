/- Chapter 6: HeapSame's plain law: rows of zeros, some of which are kept. -/
import Derived.Test.YtgimcpnelogadaaHpR
namespace Go.Proofs.Ytgimcpnelogadaa.Hp
open Go.RowKit Go.Proofs.Ytgimcpnelogadaa.Mem Go.Proofs.Ytgimcpnelogadaa.Sto Go.Proofs.Ytgimcpnelogadaa.Wd
set_option linter.unusedVariables false
set_option linter.unusedSimpArgs false
theorem sum_one (f : Nat → Nat) (a : Nat) : ∀ N, ((List.range N).map fun n => if n = a then f n else 0).sum = if a < N then f a else 0
  | 0 => by simp
  | N + 1 => by
    rw [List.range_succ, List.map_append, List.sum_append, sum_one f a N]
    simp only [List.map_cons, List.map_nil, List.sum_cons, List.sum_nil]
    by_cases c : N = a
    · subst c; simp
    · by_cases d : a < N
      · rw [if_pos d, if_neg c, if_pos (by omega)]; rfl
      · rw [if_neg d, if_neg c, if_neg (by omega)]; rfl
theorem sum_two (f g : Nat → Nat) : ∀ l : List Nat, (l.map fun n => f n + g n).sum = (l.map f).sum + (l.map g).sum
  | [] => rfl
  | a :: l => by simp only [List.map_cons, List.sum_cons, sum_two f g l]; omega
theorem sum_pick (N : Nat) (f : Nat → Nat) : ∀ S : List Nat, S.Nodup → (∀ n ∈ S, n < N) → ((List.range N).map fun n => if n ∈ S then f n else 0).sum = (S.map f).sum
  | [], _, _ => by
    simp only [List.not_mem_nil, if_false, List.map_nil, List.sum_nil]
    induction List.range N with
    | nil => rfl
    | cons a l ih => simpa using ih
  | a :: S, hd, hl => by
    obtain ⟨h1, h2⟩ := List.nodup_cons.1 hd
    have e : ((List.range N).map fun n => if n ∈ a :: S then f n else 0) = (List.range N).map fun n => (if n = a then f n else 0) + (if n ∈ S then f n else 0) := List.map_congr_left fun n _ => by
      by_cases c : n = a
      · subst c; simp [h1]
      · simp [c]
    rw [e, sum_two, sum_one, sum_pick N f S h2 (fun n hn => hl n (List.mem_cons_of_mem _ hn)), if_pos (hl a (List.mem_cons_self ..))]
    rfl
def sumL (L : List (Nat × Nat)) : Nat := (L.map fun q => 1 + q.2).sum
def hwL (L : List (Nat × Nat)) : List Nat := L.map fun q => hw q.1
/-- Of M the cells L are kept: numbers and lengths; all are rows of zeros. -/
structure Kept (M : List (Option MC)) (L : List (Nat × Nat)) : Prop where
  nodup : (L.map Prod.fst).Nodup
  at_ : ∀ q ∈ L, ∃ m, M[q.1]? = some (some m) ∧ m.c = rowC (List.replicate q.2 0)
  zero : ∀ m, some m ∈ M → ∃ k, m.c = rowC (List.replicate k 0)
section
variable {M : List (Option MC)} {L : List (Nat × Nat)} {R : List Nat} {B : List Bool}
theorem kept_nil : Kept [] [] := ⟨by simp, by simp, by simp⟩
theorem zero_refs (h : Kept M L) {n x : Nat} (hx : x ∈ (celsOf M).refs n) : x = 0 := by
  unfold Cells.refs celsOf at hx
  rw [List.getElem?_map] at hx
  cases hm : M[n]? with
  | none => rw [hm] at hx; simp at hx
  | some o =>
    cases o with
    | none => rw [hm] at hx; simp at hx
    | some m =>
      obtain ⟨k, hk⟩ := h.zero m (List.mem_of_getElem? hm)
      rw [hm] at hx
      simp only [Option.map_some, Option.getD_some, Cel.refs, hk, rowC] at hx
      simp at hx
      exact hx.2
theorem kept_rch (h : Kept M L) (hs : M.length ≤ 281474976710656) (hR : ∀ x, x ∈ R → x ∈ hwL L ∨ x = 0) (hR2 : ∀ x ∈ hwL L, x ∈ R) (n : Nat) : Rch (celsOf M) R n ↔ n ∈ L.map Prod.fst := by
  have h0 : ∀ n, (celsOf M).at_ 0 ≠ some n := fun n e => by
    have := (atM_at.1 e).1
    rw [show hdl 0 = none by decide] at this
    cases this
  have hlt : ∀ q ∈ L, q.1 < 281474976710656 := fun q hq => by
    obtain ⟨m, hm, _⟩ := h.at_ q hq
    have := (List.getElem?_eq_some_iff.1 hm).1
    omega
  constructor
  · intro hn
    cases hn with
    | root hw h1 =>
      rcases hR _ hw with e | e
      · obtain ⟨q, hq, rfl⟩ := List.mem_map.1 e
        have := (atM_at.1 h1).1
        rw [hdl_hw (hlt q hq)] at this
        cases this
        exact List.mem_map_of_mem hq
      · subst e; exact absurd h1 (h0 n)
    | next _ hw h1 =>
      rw [zero_refs h hw] at h1
      exact absurd h1 (h0 n)
  · intro hn
    obtain ⟨q, hq, rfl⟩ := List.mem_map.1 hn
    obtain ⟨m, hm, _⟩ := h.at_ q hq
    exact .root (hR2 _ (List.mem_map_of_mem hq)) (atM_at.2 ⟨hdl_hw (hlt q hq), m, hm⟩)
theorem kept_units (h : Kept M L) (hs : M.length ≤ 281474976710656) (hR : ∀ x, x ∈ R → x ∈ hwL L ∨ x = 0) (hR2 : ∀ x ∈ hwL L, x ∈ R) (hB : Marks M R B) : unitsOf (celsOf M) B = sumL L := by
  unfold unitsOf
  have e : ((List.range (celsOf M).length).map fun n => if B.getD n false = true then (celsOf M).need n else 0) = (List.range (celsOf M).length).map fun n => if n ∈ L.map Prod.fst then (celsOf M).need n else 0 := List.map_congr_left fun n _ => by
    have : B.getD n false = true ↔ n ∈ L.map Prod.fst := (hB.2 n).trans (kept_rch h hs hR hR2 n)
    by_cases c : n ∈ L.map Prod.fst
    · rw [if_pos c, if_pos (this.2 c)]
    · rw [if_neg c, if_neg (fun e => c (this.1 e))]
  rw [e, sum_pick _ _ _ h.nodup (fun n hn => by
    obtain ⟨q, hq, rfl⟩ := List.mem_map.1 hn
    obtain ⟨m, hm, _⟩ := h.at_ q hq
    have := (List.getElem?_eq_some_iff.1 hm).1
    simpa [celsOf] using this), List.map_map]
  unfold sumL
  congr 1
  refine List.map_congr_left fun q hq => ?_
  obtain ⟨m, hm, hc⟩ := h.at_ q hq
  simp only [Function.comp, Cells.need, celsOf, List.getElem?_map, hm, Option.map_some, Option.getD_some, hc, rowC, List.length_replicate]
theorem kept_sweep (h : Kept M L) (hs : M.length ≤ 281474976710656) (hR : ∀ x, x ∈ R → x ∈ hwL L ∨ x = 0) (hR2 : ∀ x ∈ hwL L, x ∈ R) (hB : Marks M R B) : Kept (swK B M.length M) L := by
  refine ⟨h.nodup, fun q hq => ?_, fun m hm => h.zero m (sw_mem hm)⟩
  obtain ⟨m, hm, hc⟩ := h.at_ q hq
  have : B.getD q.1 false = true := (hB.2 _).2 ((kept_rch h hs hR hR2 _).2 (List.mem_map_of_mem hq))
  refine ⟨m, ?_, hc⟩
  rw [swK_get, hm, Option.map_some, if_neg (by rw [this]; simp)]
theorem kept_place {M' : List (Option MC)} {n k : Nat} {m : MC} (h : Kept M L) (hP : Placed M n m M') (hm : m.c = rowC (List.replicate k 0)) : Kept M' L ∧ Kept M' (L ++ [(n, k)]) := by
  have hn : n ∉ L.map Prod.fst := fun hn => by
    obtain ⟨q, hq, rfl⟩ := List.mem_map.1 hn
    obtain ⟨m', hm', _⟩ := h.at_ q hq
    cases hP with
    | set e => rw [hm'] at e; cases e
    | push e _ => rw [e] at hm'; simp at hm'
  have hz : ∀ x, some x ∈ M' → ∃ k, x.c = rowC (List.replicate k 0) := fun x hx => by
    rcases hP.mem.1 hx with rfl | hx
    · exact ⟨k, hm⟩
    · exact h.zero x hx
  have hold : ∀ q ∈ L, ∃ m, M'[q.1]? = some (some m) ∧ m.c = rowC (List.replicate q.2 0) := fun q hq => by
    obtain ⟨m', hm', hc⟩ := h.at_ q hq
    refine ⟨m', ?_, hc⟩
    cases hP with
    | set e => rw [List.getElem?_set_ne (fun e => hn (List.mem_map.2 ⟨q, hq, e.symm⟩))]; exact hm'
    | push e _ => rw [List.getElem?_append_left (List.getElem?_eq_some_iff.1 hm').1]; exact hm'
  have hnew : M'[n]? = some (some m) := by
    cases hP with
    | set e => rw [List.getElem?_set_self (List.getElem?_eq_some_iff.1 e).1]
    | push e _ => rw [e]; simp
  refine ⟨⟨h.nodup, hold, hz⟩, ⟨?_, fun q hq => ?_, hz⟩⟩
  · rw [List.map_append, List.nodup_append]
    refine ⟨h.nodup, by simp, fun a ha b hb e => ?_⟩
    simp at hb
    subst hb e
    exact hn ha
  · rcases List.mem_append.1 hq with hq | hq
    · exact hold q hq
    · simp at hq
      subst hq
      exact ⟨m, hnew, hm⟩
theorem LawG.small {p units : Nat} {G : List Nat} {W : World} (h : LawG p units M G W) : M.length ≤ 281474976710656 := by
  obtain ⟨cv, rp, F, most, h1, _⟩ := h.ex
  have := h1.small
  omega
theorem kept_used (h : Kept M L) : sumL L ≤ usedOf M := by
  have hsum := sum_pick (celsOf M).length (celsOf M).need _ h.nodup (fun n hn => by
    obtain ⟨q, hq, rfl⟩ := List.mem_map.1 hn
    obtain ⟨m, hm, _⟩ := h.at_ q hq
    have := (List.getElem?_eq_some_iff.1 hm).1
    simpa [celsOf] using this)
  have e : sumL L = ((L.map Prod.fst).map (celsOf M).need).sum := by
    rw [List.map_map]
    unfold sumL
    congr 1
    refine List.map_congr_left fun q hq => ?_
    obtain ⟨m, hm, hc⟩ := h.at_ q hq
    simp only [Function.comp, Cells.need, celsOf, List.getElem?_map, hm, Option.map_some, Option.getD_some, hc, rowC, List.length_replicate]
  rw [e, ← hsum, ← needs_sum]
  refine sum_le_of _ _ _ fun n _ => ?_
  split <;> omega
/-- Put of a row of zeros, as the law looks at it. -/
theorem put_kept {W w' : World} {p units k : Nat} {G : List Nat} {e : Ending} (hk : Kept M L) (hs : M.length ≤ 281474976710656) (h : PutG W p units M G (rowC (List.replicate k 0)) (hwL L) e w') :
    Chg G W w' ∧ ∃ G', (∀ g ∈ G', g ∈ G ∨ W.heap.size ≤ g) ∧
      ((sumL L + (1 + k) ≤ units ∧ ∃ n M', e = .returned (.tuple #[.int .u64 (hw n : Nat), .int .i64 0]) ∧ LawG p units M' G' w' ∧ Kept M' L ∧ Kept M' (L ++ [(n, k)])) ∨
      (units < sumL L + (1 + k) ∧ e = .returned (.tuple #[.int .u64 0, .int .i64 40]) ∧ ∃ M', LawG p units M' G' w' ∧ Kept M' L)) := by
  obtain ⟨hc, G', hG, h⟩ := h
  have hnd : (rowC (List.replicate k 0)).need = 1 + k := by simp [rowC]
  have hR : ∀ x, x ∈ hwL L ++ ((rowC (List.replicate k 0)).words ++ [(rowC (List.replicate k 0)).base]) → x ∈ hwL L ∨ x = 0 := fun x hx => by
    simp only [rowC, List.mem_append, List.mem_singleton] at hx
    rcases hx with hx | hx | hx
    · exact .inl hx
    · exact .inr (List.eq_of_mem_replicate hx)
    · exact .inr hx
  have hR2 : ∀ x ∈ hwL L, x ∈ hwL L ++ ((rowC (List.replicate k 0)).words ++ [(rowC (List.replicate k 0)).base]) := fun x hx => List.mem_append_left _ hx
  refine ⟨hc, G', hG, ?_⟩
  rw [hnd] at h
  rcases h with ⟨M5, hM5, n, m, M', hm, hP, he, hh⟩ | ⟨hlt, B, hB, hu, he, hh⟩
  · have : sumL L + (1 + k) ≤ units ∧ Kept M5 L := by
      rcases hM5 with ⟨hle, rfl⟩ | ⟨_, B, hB, rfl, hle⟩
      · refine ⟨?_, hk⟩
        -- the marks of the roots
        have := kept_used hk
        omega
      · rw [kept_units hk hs hR hR2 hB] at hle
        exact ⟨hle, kept_sweep hk hs hR hR2 hB⟩
    obtain ⟨h1, h2⟩ := kept_place this.2 hP hm
    exact .inl ⟨this.1, n, M', he, hh, h1, h2⟩
  · rw [kept_units hk hs hR hR2 hB] at hu
    exact .inr ⟨hu, he, _, hh, kept_sweep hk hs hR hR2 hB⟩
end
end Go.Proofs.Ytgimcpnelogadaa.Hp
