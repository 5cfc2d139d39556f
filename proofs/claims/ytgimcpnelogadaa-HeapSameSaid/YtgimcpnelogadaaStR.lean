/- Chapter 5, the store, by hand: slices.SortFunc over extents. -/
import Derived.Test.YtgimcpnelogadaaStO
import Derived.Test.YtgimcpnelogadaaStN
namespace Go.Proofs.Ytgimcpnelogadaa.Sto
open Go.RowKit Go.Proofs.Ytgimcpnelogadaa.Mem Go.Sort Go.Shelf
set_option linter.unusedVariables false
set_option linter.unusedSimpArgs false

set_option maxRecDepth 100000 in
/-- order, to the block. -/
theorem order_world (i1 a1 l1 i2 a2 l2 : Int) (w : World) :
    Calls Try.prog 64 #[.agg #[.int .i64 i1, .int .i64 a1, .int .i64 l1], .agg #[.int .i64 i2, .int .i64 a2, .int .i64 l2]] w fun e w' => e = .returned (.int .i64 (ordI i1 a1 i2 a2)) ∧ ∃ q os, w' = grow (w.drewN q) os := by
  have hu := Try.underlying114
  go_enter Try.func64, Try.ntmps64
  go_wp2
  refine region_tail 10 (by kernel_rfl) (by kernel_rfl) ?_
  simp only [List.take_succ_cons, List.take_zero, List.drop_succ_cons, List.drop_zero]
  repeat (first | still_step | still_call (calls_same (compare_calls _ _ _)))
  refine wpStill_nil ?_
  go_wp2_with (go_at_call 110; (with_reducible refine (or_calls _ _ _ _ (Blk.newL _ (by simp)).drew).mono ?_); rintro e w' ⟨rfl, rfl⟩)
  go_ret
  refine ⟨rfl, 1, #[.cells #[.int .i64 i1, .int .i64 a1, .int .i64 l1] 114, .cells #[.int .i64 i2, .int .i64 a2, .int .i64 l2] 114, .cells #[.int .i64 (cmpI a1 a2), .int .i64 (cmpI i1 i2)] 3], ?_⟩
  simp only [alloc_eq_grow, grow_grow]
  rfl

def cmpE (x y : Ext) : Int := ordI x.id x.at_ y.id y.at_
theorem cmpE_lt (x y : Ext) : ltOf cmpE x y = decide (x.lt y) := by
  unfold ltOf cmpE
  rw [Bool.eq_iff_iff]
  simp [ord_lt]
theorem cmpE_swo : SWO (ltOf cmpE) where
  irrefl := fun x => by rw [cmpE_lt]; simpa using Ext.lt_irrefl x
  trans := fun x y z h1 h2 => by rw [cmpE_lt] at *; simp at *; exact Ext.lt_trans h1 h2
  ntrans := fun x y z h1 h2 => by
    rw [cmpE_lt] at *
    simp only [decide_eq_false_iff_not] at *
    unfold Ext.lt at *
    omega

theorem cmp_lays (g n : Nat) (w : World) : CmpLays Try.prog 64 #[] extV 3 cmpE g 0 n w := fun m os dk hdk x y => by
  have := order_world x.id x.at_ x.len y.id y.at_ y.len (sortWorldK extV 3 w g 0 m dk os)
  simpa [extV, cmpE] using this

theorem flat_row (d : Array Ext) : flatK extV 3 d = (rowV d.toList).toArray := by
  apply Array.ext
  · simp [rowV_length]
  · intro t h1 h2
    have ht : t < d.size * 3 := by simpa using h1
    have hq : t / 3 < d.size := by omega
    obtain ⟨r0, r1, r2⟩ := rowV_get d.toList (i := t / 3) (by simpa using hq)
    rw [← getElem!_pos (flatK extV 3 d) t h1, get_flatK _ _ _ t ht, getElem!_pos d _ hq]
    simp only [List.getElem_toArray]
    have hm : t % 3 = 0 ∨ t % 3 = 1 ∨ t % 3 = 2 := by omega
    simp only [Array.getElem_toList] at r0 r1 r2
    rcases hm with hm | hm | hm
    · rw [hm]
      have e : t / 3 * 3 = t := by omega
      rw [e] at r0
      have := (List.getElem?_eq_some_iff.1 r0).2
      rw [this]; rfl
    · rw [hm]
      have e : t / 3 * 3 + 1 = t := by omega
      rw [e] at r1
      have := (List.getElem?_eq_some_iff.1 r1).2
      rw [this]; rfl
    · rw [hm]
      have e : t / 3 * 3 + 2 = t := by omega
      rw [e] at r2
      have := (List.getElem?_eq_some_iff.1 r2).2
      rw [this]; rfl

theorem blk_sorted {w : World} {g : Nat} {l : List Ext} {rest : List Value} (h : Blk w g 114 (rowV l ++ rest)) (d : Array Ext) (hd : d.size = l.length) (n : Nat) (os : Array Obj) :
    Blk (sortWorldK extV 3 w g 0 n d os) g 114 (rowV d.toList ++ rest) ∧ Chg [g] w (sortWorldK extV 3 w g 0 n d os) := by
  have hlt := h.lt
  unfold sortWorldK putRowK putRow grow mapBlock Sort.ahead
  refine ⟨?_, ⟨rfl, rfl, rfl, by simp, fun k hk hg => ?_⟩⟩
  · unfold Blk
    simp only
    rw [Array.getElem?_append_left (by simpa using hlt), Array.getElem?_modify, if_pos rfl, show w.heap[g]? = _ from h]
    simp only [Option.map_some, onCells]
    congr 2
    apply Array.ext
    · simp [putCells, rowV_length, hd]
    · intro t h1 h2
      have ht : t < (rowV l ++ rest).length := by simpa [putCells] using h1
      simp only [putCells, Array.getElem_mapIdx, flat_row, Nat.zero_le, true_and, Nat.zero_add, List.size_toArray, id]
      by_cases c : t < (rowV d.toList).length
      · rw [if_pos c, getElem!_pos _ _ (by simpa using c)]
        simp [List.getElem_append_left c]
      · have c' : (rowV l).length ≤ t := by rw [rowV_length] at c ⊢; simp at c; omega
        have e : (rowV d.toList).length = (rowV l).length := by rw [rowV_length, rowV_length]; simp [hd]
        rw [if_neg c]
        simp only [List.getElem_toArray]
        rw [List.getElem_append_right (by omega), List.getElem_append_right (by omega)]
        simp only [e]
  · simp only
    rw [Array.getElem?_append_left (by simpa using hk), Array.getElem?_modify, if_neg (by simp at hg; omega)]

theorem insertion_none (p : Option Addr) (cap : Nat) (fv : Value) (w : World) :
    Calls Try.prog 129 #[.slice p 0 cap, .int .i64 0, .int .i64 0, fv] w fun e w' => e = .returned (.tuple #[]) ∧ w' = w := by
  go_enter Try.func129, Try.ntmps129
  go_wp2
  refine wp_loop_rounds 1 ?_
  rw [rounds_succ]
  go_wp2
  go_end0
  exact ⟨rfl, rfl⟩
set_option maxRecDepth 100000 in
theorem pdq_none (p : Option Addr) (cap : Nat) (lim : Int) (fv : Value) (w : World) :
    Calls Try.prog 114 #[.slice p 0 cap, .int .i64 0, .int .i64 0, .int .i64 lim, fv] w fun e w' => e = .returned (.tuple #[]) ∧ w' = w := by
  go_enter Try.func114, Try.ntmps114
  go_wp2
  refine wp_loop_rounds 1 ?_
  rw [rounds_succ]
  go_wp2_with (go_at_call 129; refine (insertion_none _ _ _ _).mono ?_; rintro e w' ⟨rfl, rfl⟩)
  (try simp only [Exit.inBlock, Exit.then]); refine bodyPost_ret (results_none rfl _ _ _) rfl ?_
  exact ⟨rfl, rfl⟩
theorem sort_none (p : Option Addr) (cap : Nat) (fv : Value) (w : World) :
    Calls Try.prog 69 #[.slice p 0 cap, fv] w fun e w' => e = .returned (.tuple #[]) ∧ w' = w := by
  have hl : ∀ W, Calls Try.prog 115 #[.int .u64 0] W fun e w' => e = .returned (.int .i64 (Lib.bitLen 0 : Nat)) ∧ w' = W := fun W => by
    have h := Any.bits_Len (SlLaysF0.n15.bits (P := Try.prog) (ρ := Try.sortF0_ren) { Try.sortF0 with }) 0 W (by omega) (by omega)
    exact h
  go_enter Try.func69, Try.ntmps69
  go_wp2_with (first | (go_at_call 115; refine (hl _).mono ?_; rintro e w' ⟨rfl, rfl⟩) | (go_at_call 114; refine (pdq_none _ _ _ _ _).mono ?_; rintro e w' ⟨rfl, rfl⟩))
  go_end0
  exact ⟨rfl, rfl⟩

theorem isAggExt (w : World) : (isAgg 114).run Try.prog w = .ok true w := by kernel_rfl

/-- slices.SortFunc(l, order). -/
theorem sort_calls {w : World} {v : Value} {l : List Ext} (h : Row w 114 3 v l.length (rowV l)) (hl : l.length ≤ 1000000000) :
    Calls Try.prog 69 #[v, .func (.func 64) #[] #[]] w fun e w' => ∃ l', e = .returned (.tuple #[]) ∧ l'.Perm l ∧ l'.Pairwise (fun x y => ¬ y.lt x) ∧
      Row w' 114 3 v l'.length (rowV l') ∧ Chg v.ownBlock.toList w w' := by
  rcases h.cases with ⟨rfl, h2, _⟩ | ⟨g, cap, rest, rfl, hb, hn, hcap, hlen⟩
  · have hl0 : l = [] := List.eq_nil_of_length_eq_zero h2
    subst hl0
    refine (sort_none none 0 _ w).mono ?_
    rintro e w' ⟨rfl, rfl⟩
    exact ⟨[], rfl, .nil, .nil, h, Chg.refl _ _⟩
  · have efl : flatK extV 3 l.toArray = (rowV l).toArray := flat_row _
    have hH : HoldsK extV 3 w g 0 l.toArray := fun j hj => by
      rw [efl] at hj ⊢
      have hj' : j < (rowV l).length := by simpa using hj
      rw [getElem!_pos ((rowV l).toArray) j (by simpa using hj')]
      simp only [List.getElem_toArray, id, Nat.zero_add]
      exact ⟨hb.cellAt (by rw [List.getElem?_append_left hj', List.getElem?_eq_getElem hj']), hb.frozen j⟩
    have eg : ∀ args w, (callFunc 64 args).run Try.prog w = .ok (.enter 64 args) w := enters_of Try.func64 (by kernel_rfl) rfl
    have H := AnyQ.slices_SortFunc Try.sortF0 3 isAggExt sizeExt extV (fun _ => rfl) extV_one cmpE cmpE_swo 64 #[] g 0 cap l.toArray w eg (cmp_lays g _ w) hH hb.lt (by simp; omega)
    refine H.mono ?_
    rintro e w' ⟨rfl, d', n, os, hp, hs, rfl⟩
    obtain ⟨hb', hc'⟩ := blk_sorted hb d' (by simpa using hp.1) n os
    have hdl : d'.toList.length = l.length := by simpa using hp.1
    refine ⟨d'.toList, rfl, ?_, ?_, ?_, hc'.mono (by simp [Value.ownBlock])⟩
    · have h1 := hp.2.2
      have e1 : d'.extract 0 l.toArray.size = d' := by rw [← hp.1]; simp
      have e2 : l.toArray.extract 0 l.toArray.size = l.toArray := by simp
      rw [e1, e2] at h1
      simpa using h1
    · rw [List.pairwise_iff_getElem]
      intro i j hi hj hij
      have := hs i j (Nat.zero_le _) hij (by simpa [hp.1] using hj)
      rw [cmpE_lt, getElem!_pos _ _ (by simpa using hj), getElem!_pos _ _ (by simpa using hi)] at this
      simpa using this
    · rw [hdl]
      refine Row.mk hb' (by rw [rowV_length, hdl]) hn hcap ?_
      rw [List.length_append, rowV_length] at hlen ⊢
      rw [hdl]; exact hlen
end Go.Proofs.Ytgimcpnelogadaa.Sto
