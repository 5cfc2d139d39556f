/- Chapter 6: a cell is placed. -/
import Derived.Test.YtgimcpnelogadaaHpG
namespace Go.Proofs.Ytgimcpnelogadaa.Hp
open Go.RowKit Go.Proofs.Ytgimcpnelogadaa.Mem Go.Proofs.Ytgimcpnelogadaa.Sto Go.Proofs.Ytgimcpnelogadaa.Wd
set_option linter.unusedVariables false
set_option linter.unusedSimpArgs false

/-- M' is M with m at n: the first free place, or behind all. -/
inductive Placed (M : List (Option MC)) (n : Nat) (m : MC) : List (Option MC) → Prop where
  | set (h : M[n]? = some none) : Placed M n m (M.set n (some m))
  | push (h : n = M.length) (hf : ∀ j : Nat, M[j]? ≠ some none) : Placed M n m (M ++ [some m])
section
variable {M M' : List (Option MC)} {n : Nat} {m : MC}
theorem Placed.mem (h : Placed M n m M') {x : MC} : some x ∈ M' ↔ x = m ∨ some x ∈ M := by
  cases h with
  | set h =>
    obtain ⟨e1, e2⟩ := split_cell h (some m)
    rw [e2]
    conv => rhs; rw [e1]
    simp only [List.mem_append, List.mem_cons]
    constructor
    · rintro (a | a | a)
      · exact .inr (.inl a)
      · exact .inl (Option.some.inj a)
      · exact .inr (.inr (.inr a))
    · rintro (a | a | a | a)
      · exact .inr (.inl (by rw [a]))
      · exact .inl a
      · cases a
      · exact .inr (.inr a)
  | push h hf => simp [or_comm]
theorem Placed.split (h : Placed M n m M') : ∃ A B, M' = A ++ some m :: B ∧ (M = A ++ none :: B ∨ (M = A ∧ B = [])) ∧ A.length = n := by
  cases h with
  | set h =>
    obtain ⟨e1, e2⟩ := split_cell h (some m)
    have := (List.getElem?_eq_some_iff.1 h).1
    exact ⟨_, _, e2, .inl e1, by rw [List.length_take]; omega⟩
  | push h hf => exact ⟨M, [], rfl, .inr ⟨rfl, rfl⟩, h.symm⟩
theorem Placed.used (h : Placed M n m M') : usedOf M' = usedOf M + m.c.need := by
  obtain ⟨A, B, rfl, rfl | ⟨rfl, rfl⟩, _⟩ := h.split
  · simp only [usedOf, List.map_append, List.map_cons, List.sum_append, List.sum_cons]; omega
  · simp only [usedOf, List.map_append, List.map_cons, List.sum_append, List.sum_cons, List.map_nil, List.sum_nil]; omega
theorem Placed.blks (h : Placed M n m M') : (blks M').Perm (m.blk :: blks M) ∧ (owns M').Perm (m.wv.ownBlock.toList ++ owns M) ∧ (bufs M').Perm ((if m.c.buf then [(m.c.ext, m.c.bytes)] else []) ++ bufs M) := by
  obtain ⟨A, B, rfl, rfl | ⟨rfl, rfl⟩, _⟩ := h.split
  · refine ⟨?_, ?_, ?_⟩
    · simp only [Hp.blks, List.filterMap_append, List.filterMap_cons, Option.map_some, Option.map_none]
      exact List.perm_middle
    · simp only [owns, List.filterMap_append, List.filterMap_cons, Option.bind_some, Option.bind_none]
      cases m.wv.ownBlock with
      | none => exact .refl _
      | some g => exact List.perm_middle
    · simp only [bufs, List.filterMap_append, List.filterMap_cons, Option.bind_some, Option.bind_none]
      by_cases c : m.c.buf = true
      · simp only [c, if_true]
        exact List.perm_middle
      · simp only [c]
        exact .refl _
  · refine ⟨?_, ?_, ?_⟩
    · simp only [Hp.blks, List.filterMap_append, List.filterMap_cons, Option.map_some, List.filterMap_nil]
      exact List.perm_append_comm
    · simp only [owns, List.filterMap_append, List.filterMap_cons, Option.bind_some, List.filterMap_nil]
      cases m.wv.ownBlock with
      | none => simp
      | some g => exact List.perm_append_comm
    · simp only [bufs, List.filterMap_append, List.filterMap_cons, Option.bind_some, List.filterMap_nil]
      by_cases c : m.c.buf = true
      · simp only [c, if_true]
        exact List.perm_append_comm
      · simp [c]
theorem Placed.cels (h : Placed M n m M') : ∀ j : Nat, (celsOf M')[j]?.getD none = if j = n then some m.c else (celsOf M)[j]?.getD none := by
  intro j
  cases h with
  | set h =>
    have hn := (List.getElem?_eq_some_iff.1 h).1
    unfold celsOf
    rw [List.getElem?_map, List.getElem?_set, List.getElem?_map]
    by_cases c : n = j
    · subst c; simp [hn]
    · rw [if_neg c, if_neg (fun e => c e.symm)]
  | push h hf =>
    unfold celsOf
    rw [List.getElem?_map, List.getElem?_map, List.getElem?_append]
    subst h
    by_cases c : j < M.length
    · rw [if_pos c, if_neg (by omega)]
    · rw [if_neg c]
      by_cases d : j = M.length
      · subst d; simp
      · rw [if_neg d, List.getElem?_eq_none (by simp; omega), List.getElem?_eq_none (by omega)]
end
theorem sum_le_of {α : Type} (f g : α → Nat) : ∀ l : List α, (∀ x ∈ l, f x ≤ g x) → (l.map f).sum ≤ (l.map g).sum
  | [], _ => Nat.le_refl _
  | x :: l, h => by
    have := sum_le_of f g l fun y hy => h y (List.mem_cons_of_mem _ hy)
    have := h x (List.mem_cons_self ..)
    simp only [List.map_cons, List.sum_cons]
    omega
theorem needs_sum (M : List (Option MC)) : ((List.range (celsOf M).length).map (celsOf M).need).sum = usedOf M := by
  have : (List.range (celsOf M).length).map (celsOf M).need = M.map fun o => match o with | some m => m.c.need | none => 0 := by
    apply List.ext_getElem
    · simp [celsOf]
    · intro i h1 h2
      have hi : i < M.length := by simpa using h2
      simp only [List.getElem_map, List.getElem_range]
      unfold Cells.need celsOf
      rw [List.getElem?_map, List.getElem?_eq_getElem hi]
      cases M[i] <;> rfl
  rw [this]
  rfl
theorem units_le (M : List (Option MC)) (B : List Bool) : unitsOf (celsOf M) B ≤ usedOf M := by
  rw [← needs_sum]
  refine sum_le_of _ _ _ fun n _ => ?_
  split <;> omega

theorem sw_used (M : List (Option MC)) (B : List Bool) : usedOf (swK B M.length M) = unitsOf (celsOf M) B := by
  rw [← needs_sum]
  unfold unitsOf
  have hl : (celsOf (swK B M.length M)).length = (celsOf M).length := by simp [celsOf, swK_length]
  rw [hl]
  congr 1
  refine List.map_congr_left fun i hi => ?_
  have hi' : i < M.length := by simpa [celsOf] using hi
  unfold Cells.need celsOf
  rw [List.getElem?_map, List.getElem?_map, swK_get, List.getElem?_eq_getElem hi']
  cases hb : B.getD i false with
  | true => simp
  | false => simp [hi']
theorem sw_mem {B : List Bool} {k : Nat} {M : List (Option MC)} {x : MC} (h : some x ∈ swK B k M) : some x ∈ M := by
  obtain ⟨i, hi⟩ := List.getElem?_of_mem h
  rw [swK_get] at hi
  cases hm : M[i]? with
  | none => rw [hm] at hi; cases hi
  | some o =>
    rw [hm, Option.map_some] at hi
    split at hi
    · cases hi
    · cases hi; exact List.mem_of_getElem? hm
theorem hfoot_sub {p : Nat} {cv : Value} {M S : List (Option MC)} {F : List Nat} (h : ∀ x, some x ∈ S → some x ∈ M) : ∀ k ∈ hfoot p cv S F, k ∈ hfoot p cv M F := by
  intro k hk
  rcases mem_hfoot.1 hk with e | e | ⟨m, hm, e⟩ | ⟨m, hm, e⟩ | e
  · exact mem_hfoot.2 (.inl e)
  · exact mem_hfoot.2 (.inr (.inl e))
  · exact mem_hfoot.2 (.inr (.inr (.inl ⟨m, h m hm, e⟩)))
  · exact mem_hfoot.2 (.inr (.inr (.inr (.inl ⟨m, h m hm, e⟩))))
  · exact mem_hfoot.2 (.inr (.inr (.inr (.inr e))))

section
variable {w w' : World} {p units used rp most n used' most' : Nat} {M M' : List (Option MC)} {m : MC} {cv cv' : Value} {F F' G : List Nat}
theorem HeapAt.placed (h : HeapAt w p units used M cv rp F most) (hP : Placed M n m M') (hc : Chg G w w') (hG : ∀ k ∈ G, k = p ∨ cv.ownBlock = some k ∨ k ∈ F)
    (h1 : Blk w' p 130 [.int .i64 (units : Int), .int .i64 (used' : Int), cv', .pointer (some ⟨rp, 0, none⟩)]) (h2 : Row w' 134 1 cv' M'.length (M'.map ptrV)) (h3 : Holds w' rp F' (bufs M') most')
    (h4 : Blk w' m.blk 136 (celV m.c m.wv)) (h5 : Row w' 22 1 m.wv m.c.words.length (u64V m.c.words)) (hb : w.heap.size ≤ m.blk) (hw : ∀ g, m.wv.ownBlock = some g → w.heap.size ≤ g)
    (hF' : ∀ k ∈ F', k ∈ F ∨ w.heap.size ≤ k) (hD : ∀ k ∈ F', k ≠ p ∧ k ≠ m.blk ∧ m.wv.ownBlock ≠ some k ∧ cv'.ownBlock ≠ some k) (hu : used' ≤ units) (hl : M'.length ≤ units) (hm : most' ≤ 100000000 * 1048576) :
    HeapAt w' p units used' M' cv' rp F' most' := by
  obtain ⟨b1, b2, b3⟩ := hP.blks
  have hlt := h.lt
  have hap := h.apart
  have far : ∀ {j : Nat} {t : TypeId} {cs : List Value}, t ≠ 130 → t ≠ 134 → j ∉ F → Blk w j t cs → Blk w' j t cs := fun ht ht2 hF hb => hb.chg hc fun hm => by
    rcases hG _ hm with e | e | e
    · rw [e] at hb; exact ht (hb.inj h.top).1
    · obtain ⟨ds, hd⟩ := h.row.typed e
      exact ht2 (hb.inj hd).1
    · exact hF e
  have memB : ∀ {x : MC}, some x ∈ M → x.blk ∈ blks M := fun hx => List.mem_filterMap.2 ⟨_, hx, rfl⟩
  have memO : ∀ {x : MC} {g : Nat}, some x ∈ M → x.wv.ownBlock = some g → g ∈ owns M := fun hx hg => List.mem_filterMap.2 ⟨_, hx, hg⟩
  have notF : ∀ {k : Nat}, k ∈ blks M ∨ k ∈ owns M → k ∉ F := fun hk hF => hap _ hF (by
    simp only [List.mem_cons, List.mem_append]
    rcases hk with e | e
    · exact .inr (.inr (.inl e))
    · exact .inr (.inr (.inr e)))
  have ltB : ∀ {k : Nat}, k ∈ blks M ∨ k ∈ owns M → k < w.heap.size := fun hk => hlt _ (by
    simp only [hfoot, List.mem_cons, List.mem_append]
    rcases hk with e | e
    · exact .inr (.inr (.inl e))
    · exact .inr (.inr (.inr (.inl e))))
  refine ⟨h1, h2, fun x hx => ?_, fun x hx => ?_, h3, ?_, ?_, fun k hk hmem => ?_, h.small.1, hu, hl, hm⟩
  · rcases hP.mem.1 hx with rfl | hx
    · exact h4
    · exact far (by decide) (by decide) (notF (.inl (memB hx))) (h.cells x hx)
  · rcases hP.mem.1 hx with rfl | hx
    · exact h5
    · refine (h.words x hx).keep fun g hg => ?_
      obtain ⟨ds, hd⟩ := (h.words x hx).typed hg
      exact (far (by decide) (by decide) (notF (.inr (memO hx hg))) hd).trans hd.symm
  · rw [b1.nodup_iff, List.nodup_cons]
    exact ⟨fun hk => by have := ltB (.inl hk); omega, h.nblk⟩
  · rw [b2.nodup_iff]
    cases ho : m.wv.ownBlock with
    | none => simpa using h.nown
    | some g =>
      simp only [Option.toList_some, List.singleton_append, List.nodup_cons]
      exact ⟨fun hk => by have := ltB (.inr hk); have := hw g ho; omega, h.nown⟩
  · obtain ⟨d1, d2, d3, d4⟩ := hD k hk
    simp only [List.mem_cons, List.mem_append, Option.mem_toList] at hmem
    rcases hmem with e | e | e | e
    · exact d1 e
    · exact d4 e
    · rcases List.mem_cons.1 (b1.mem_iff.1 e) with e | e
      · exact d2 e
      · rcases hF' k hk with f | f
        · exact notF (.inl e) f
        · have := ltB (.inl e); omega
    · rcases List.mem_append.1 (b2.mem_iff.1 e) with e | e
      · exact d3 (Option.mem_toList.1 e)
      · rcases hF' k hk with f | f
        · exact notF (.inr e) f
        · have := ltB (.inr e); omega
end
end Go.Proofs.Ytgimcpnelogadaa.Hp
