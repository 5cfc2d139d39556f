/- Chapter 6: Reach; sweep. -/
import Derived.Test.YtgimcpnelogadaaHpE
namespace Go.Proofs.Ytgimcpnelogadaa.Hp
open Go.RowKit Go.Proofs.Ytgimcpnelogadaa.Mem Go.Proofs.Ytgimcpnelogadaa.Sto Go.Proofs.Ytgimcpnelogadaa.Wd
set_option linter.unusedVariables false
set_option linter.unusedSimpArgs false
attribute [local go_sem] Option.isNone_some Option.isNone_none

/-- What all cells need. -/
def usedOf (M : List (Option MC)) : Nat := (M.map fun o => match o with | some m => m.c.need | none => 0).sum
/-- The first k cells swept: those that are not marked are gone. -/
def swK (B : List Bool) (k : Nat) (M : List (Option MC)) : List (Option MC) := M.mapIdx fun i o => if i < k ∧ B.getD i false = false then none else o
theorem swK_zero (B : List Bool) (M : List (Option MC)) : swK B 0 M = M := by
  unfold swK
  apply List.ext_getElem?
  intro i
  rw [List.getElem?_mapIdx]
  cases M[i]? <;> simp
theorem swK_length (B : List Bool) (k : Nat) (M : List (Option MC)) : (swK B k M).length = M.length := by simp [swK]
theorem swK_get (B : List Bool) (k i : Nat) (M : List (Option MC)) : (swK B k M)[i]? = M[i]?.map fun o => if i < k ∧ B.getD i false = false then none else o := by
  unfold swK
  rw [List.getElem?_mapIdx]
theorem swK_keep {B : List Bool} {k : Nat} {M : List (Option MC)} (h : B.getD k false = true ∨ M[k]? = some none) : swK B (k + 1) M = swK B k M := by
  apply List.ext_getElem?
  intro i
  rw [swK_get, swK_get]
  by_cases c : i = k
  · subst c
    rcases h with h | h
    · rw [h]; simp
    · rw [h]; simp
  · cases M[i]? with
    | none => rfl
    | some o =>
      simp only [Option.map_some]
      have : (i < k + 1 ∧ B.getD i false = false) ↔ (i < k ∧ B.getD i false = false) := by constructor <;> (rintro ⟨a, b⟩; exact ⟨by omega, b⟩)
      simp only [this]
theorem swK_drop {B : List Bool} {k : Nat} {M : List (Option MC)} (h : B.getD k false = false) (hk : k < M.length) : swK B (k + 1) M = (swK B k M).set k none := by
  apply List.ext_getElem?
  intro i
  rw [swK_get, List.getElem?_set, swK_get, swK_length]
  by_cases c : k = i
  · subst c
    rw [if_pos rfl, if_pos hk, List.getElem?_eq_getElem hk, Option.map_some, if_pos ⟨by omega, h⟩]
  · rw [if_neg c]
    cases M[i]? with
    | none => rfl
    | some o =>
      simp only [Option.map_some]
      have : (i < k + 1 ∧ B.getD i false = false) ↔ (i < k ∧ B.getD i false = false) := by constructor <;> (rintro ⟨a, b⟩; exact ⟨by omega, b⟩)
      simp only [this]
/-- One cell less. -/
theorem split_cell {M : List (Option MC)} {n : Nat} {o : Option MC} (h : M[n]? = some o) (u : Option MC) : M = M.take n ++ o :: M.drop (n + 1) ∧ M.set n u = M.take n ++ u :: M.drop (n + 1) := by
  obtain ⟨hn, e⟩ := List.getElem?_eq_some_iff.1 h
  have e1 : M = M.take n ++ o :: M.drop (n + 1) := by rw [← e, ← List.drop_eq_getElem_cons hn, List.take_append_drop]
  refine ⟨e1, ?_⟩
  rw [List.set_eq_take_append_cons_drop, if_pos hn]
theorem bufs_set {M : List (Option MC)} {n : Nat} {m : MC} (h : M[n]? = some (some m)) : (bufs M).Perm ((if m.c.buf then [(m.c.ext, m.c.bytes)] else []) ++ bufs (M.set n none)) := by
  obtain ⟨e1, e2⟩ := split_cell h none
  rw [e2]
  conv => lhs; rw [e1]
  unfold bufs
  rw [List.filterMap_append, List.filterMap_append, List.filterMap_cons, List.filterMap_cons]
  by_cases c : m.c.buf = true
  · simp only [Option.bind_some, c, if_true, Option.bind_none]
    exact List.perm_middle
  · simp only [Option.bind_some, c, Option.bind_none]
    exact .refl _
theorem usedOf_set {M : List (Option MC)} {n : Nat} {m : MC} (h : M[n]? = some (some m)) : usedOf M = usedOf (M.set n none) + m.c.need := by
  obtain ⟨e1, e2⟩ := split_cell h none
  rw [e2]
  conv => lhs; rw [e1]
  unfold usedOf
  simp only [List.map_append, List.map_cons, List.sum_append, List.sum_cons]
  omega
theorem mem_set_none {M : List (Option MC)} {n : Nat} {m : MC} (h : some m ∈ M.set n none) : some m ∈ M := by
  rcases List.mem_or_eq_of_mem_set h with h | h
  · exact h
  · cases h
theorem blks_set {M : List (Option MC)} {n : Nat} {m : MC} (h : M[n]? = some (some m)) : (blks (M.set n none)).Sublist (blks M) ∧ (owns (M.set n none)).Sublist (owns M) := by
  obtain ⟨e1, e2⟩ := split_cell h none
  rw [e2]
  constructor
  · conv => rhs; rw [e1]
    unfold blks
    rw [List.filterMap_append, List.filterMap_append]
    refine (List.Sublist.refl _).append ?_
    rw [List.filterMap_cons, List.filterMap_cons]
    simp only [Option.map_none, Option.map_some]
    exact List.sublist_cons_self _ _
  · conv => rhs; rw [e1]
    unfold owns
    rw [List.filterMap_append, List.filterMap_append]
    refine (List.Sublist.refl _).append ?_
    rw [List.filterMap_cons, List.filterMap_cons]
    simp only [Option.bind_none, Option.bind_some]
    cases m.wv.ownBlock with
    | none => exact List.Sublist.refl _
    | some g => exact List.sublist_cons_self _ _

section
variable {w w' : World} {p units used rp most : Nat} {M : List (Option MC)} {cv : Value} {F : List Nat}
theorem HeapAt.gone (h : HeapAt w p units used M cv rp F most) {n used' : Nat} {m : MC} (hn : M[n]? = some (some m)) {G : List Nat} (hc : Chg G w w') (hG : ∀ k ∈ G, k = p ∨ cv.ownBlock = some k ∨ k ∈ F)
    (h1 : Blk w' p 130 [.int .i64 (units : Int), .int .i64 (used' : Int), cv, .pointer (some ⟨rp, 0, none⟩)]) (h2 : Row w' 134 1 cv M.length ((M.set n none).map ptrV)) (h3 : Holds w' rp F (bufs (M.set n none)) most) (hu : used' ≤ units) :
    HeapAt w' p units used' (M.set n none) cv rp F most := by
  obtain ⟨s1, s2⟩ := blks_set hn
  have hap := h.apart
  have far : ∀ {j : Nat} {t : TypeId} {cs : List Value}, t ≠ 130 → t ≠ 134 → j ∉ F → Blk w j t cs → Blk w' j t cs := fun ht ht2 hF hb => hb.chg hc fun hm => by
    rcases hG _ hm with e | e | e
    · rw [e] at hb; exact ht (hb.inj h.top).1
    · obtain ⟨ds, hd⟩ := h.row.typed e
      exact ht2 (hb.inj hd).1
    · exact hF e
  refine ⟨h1, by rw [List.length_set]; exact h2, fun x hx => ?_, fun x hx => ?_, h3, h.nblk.sublist s1, h.nown.sublist s2, fun k hk hm => hap k hk ?_, h.small.1, hu, by rw [List.length_set]; exact h.small.2.2.1, h.small.2.2.2⟩
  · have hx' := mem_set_none hx
    exact far (by decide) (by decide) (fun hF => hap _ hF (by
      simp only [List.mem_cons, List.mem_append]
      exact .inr (.inr (.inl (List.mem_filterMap.2 ⟨_, hx', rfl⟩))))) (h.cells x hx')
  · have hx' := mem_set_none hx
    refine (h.words x hx').keep fun g hg => ?_
    obtain ⟨ds, hd⟩ := (h.words x hx').typed hg
    have := far (by decide) (by decide) (fun hF => hap _ hF (by
      simp only [List.mem_cons, List.mem_append]
      exact .inr (.inr (.inr (List.mem_filterMap.2 ⟨_, hx', hg⟩))))) hd
    exact this.trans hd.symm
  · simp only [List.mem_cons, List.mem_append] at hm ⊢
    rcases hm with hm | hm | hm | hm
    · exact .inl hm
    · exact .inr (.inl hm)
    · exact .inr (.inr (.inl (s1.subset hm)))
    · exact .inr (.inr (.inr (s2.subset hm)))
theorem map_set_ptr (M : List (Option MC)) (n : Nat) (o : Option MC) : (M.set n o).map ptrV = (M.map ptrV).set n (ptrV o) := by rw [List.map_set]

theorem reach_calls (h : HeapAt w p units used M cv rp F most) (hM : WordsOk M) {rv : Value} {rs : List Nat} (hr : Row w 22 1 rv rs.length (u64V rs)) (hl : rs.length ≤ 1000000000) (hx : ∀ x ∈ rs, x < 18446744073709551616) :
    Calls Try.prog 40 #[.pointer (some ⟨p, 0, none⟩), rv] w fun e w' => ∃ B : List Bool, e = .returned (.int .i64 (unitsOf (celsOf M) B : Nat)) ∧ B.length = M.length ∧ (∀ n, B.getD n false = true ↔ Rch (celsOf M) rs n) ∧ Chg [] w w' := by
  have hL : Lists (w.alloc (.cells #[rv] 58)) (.slice (some ⟨w.heap.size, 0, none⟩) 1 1) [(rv, rs)] :=
    ⟨Row.mk (rest := []) (Blk.newL [_] (by obtain ⟨a, c, rfl⟩ := Row_form hr; rfl)) rfl (Nat.le_refl _) (by decide) rfl, fun q hq => by simp at hq; subst hq; exact hr.alloc _, fun q hq => by simp at hq; subst hq; exact ⟨hl, hx⟩, by simp⟩
  have CR := Mem.Aside.mk (reached_calls (h.chg ((Chg.refl [] w).alloc _) (by simp)) hM hL)
  simp only [List.flatMap_cons, List.flatMap_nil, List.append_nil] at CR
  obtain ⟨ar, cr, rfl⟩ := Row_form hr
  clear h hr hx hL
  go_enter Try.func40, Try.ntmps40
  go_wp2_with (go_at_call 82; (with_reducible refine CR.out.mono ?_); rintro e w' ⟨mv, B, rfl, h1, h2, h3, h4, h5⟩; have HB := Mem.Aside.mk (And.intro h1 (And.intro h3 h4)); clear h1 h2 h3 h4 h5)
  go_ret
  exact ⟨B, rfl, HB.out.1, HB.out.2.1, ((Chg.refl [] w).alloc _).then HB.out.2.2 (by simp)⟩
end
end Go.Proofs.Ytgimcpnelogadaa.Hp
