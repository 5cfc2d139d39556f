/- Merged: StO StR StS StT StU StV StW StY WdA WdB WdC MemE MemF MemG MemH MemI HpP HpA HpB HpC HpD. -/
import Derived.Test.YtgimcpnelogadaaBsA
import Derived.Shelf.SlGeneric
import Derived.Shelf.SlSortCmp.WholeK
import Derived.Ground.SlsfProg
import Derived.Test.YtgimcpnelogadaaProg
import Derived.Deep.DeepCutAuto
import Derived.Maps.RangeWalk
import Derived.RangeFuncLeaves
import Derived.RangeFuncNested
import Derived.Laws.MakeOwn
import Derived.OwnWalkIn
/-
  DERIVED: THE SHELF's CONTRACTS AT THIS DUMP, IN PLAIN WORDS (tools/lay-plain.mjs out of 'TrySort.lean', which tools/lay-shelf.mjs wrote): THE SAME DECLARATIONS UNDER THE SAME NAMES: 'import', 'namespace', 'open', 'def', 'theorem' AND NOTHING ELSE: no command of the shelf's: FOR A HAND-IN. Each laying: the table of numbers ('.._ren') and one theorem, a field a fact of the dump's own or the kernel's comparison; each contract: ONE APPLICATION.
-/
namespace Go.Proofs
open Go.Shelf
def Try.sortF0_ren : Go.Shelf.Ren := ⟨fun | 6 => 69 | 15 => 115 | 14 => 114 | 28 => 137 | 29 => 138 | 20 => 129 | 21 => 130 | 22 => 131 | 23 => 132 | 24 => 133 | 25 => 134 | 26 => 135 | 27 => 136 | 46 => 142 | 47 => 143 | 48 => 144 | 49 => 145 | 50 => 146 | 57 => 147 | n => n, fun | 22 => 109 | 24 => 114 | 25 => 116 | 3 => 3 | 39 => 32 | 0 => 0 | 53 => 185 | 55 => 22 | 4 => 4 | 46 => 179 | 45 => 178 | 50 => 53 | 5 => 5 | 9 => 9 | 66 => 188 | 70 => 191 | 76 => 193 | 77 => 194 | n => n, fun | n => n⟩
theorem Try.sortF0 : Go.Proofs.SlLaysF0.n6 Try.prog Try.sortF0_ren := {
  mixed := by kernel_rfl
  f6 := ⟨Try.f69.name, by decide, Try.func69.trans (congrArg some (by kernel_rfl))⟩
  f14 := ⟨Try.f114.name, by decide, Try.func114.trans (congrArg some (by kernel_rfl))⟩
  f15 := Try.func115.trans (congrArg some (by kernel_rfl))
  f20 := ⟨Try.f129.name, by decide, Try.func129.trans (congrArg some (by kernel_rfl))⟩
  f21 := ⟨Try.f130.name, by decide, Try.func130.trans (congrArg some (by kernel_rfl))⟩
  f22 := ⟨Try.f131.name, by decide, Try.func131.trans (congrArg some (by kernel_rfl))⟩
  f23 := ⟨Try.f132.name, by decide, Try.func132.trans (congrArg some (by kernel_rfl))⟩
  f24 := ⟨Try.f133.name, by decide, Try.func133.trans (congrArg some (by kernel_rfl))⟩
  f25 := ⟨Try.f134.name, by decide, Try.func134.trans (congrArg some (by kernel_rfl))⟩
  f26 := ⟨Try.f135.name, by decide, Try.func135.trans (congrArg some (by kernel_rfl))⟩
  f27 := ⟨Try.f136.name, by decide, Try.func136.trans (congrArg some (by kernel_rfl))⟩
  f28 := Try.func137.trans (congrArg some (by kernel_rfl))
  f29 := Try.func138.trans (congrArg some (by kernel_rfl))
  f46 := ⟨Try.f142.name, by decide, Try.func142.trans (congrArg some (by kernel_rfl))⟩
  f47 := Try.func143.trans (congrArg some (by kernel_rfl))
  f48 := Try.func144.trans (congrArg some (by kernel_rfl))
  f49 := ⟨Try.f145.name, by decide, Try.func145.trans (congrArg some (by kernel_rfl))⟩
  f50 := ⟨Try.f146.name, by decide, Try.func146.trans (congrArg some (by kernel_rfl))⟩
  f57 := ⟨Try.f147.name, by decide, Try.func147.trans (congrArg some (by kernel_rfl))⟩
  t0 := Try.underlying0
  a0 := Try.isAgg0
  z0 := Try.sizeOf0
  v0 := Try.zeroValue0
  t3 := Try.underlying3
  a3 := Try.isAgg3
  z3 := Try.sizeOf3
  v3 := Try.zeroValue3
  t4 := Try.underlying4
  a4 := Try.isAgg4
  z4 := Try.sizeOf4
  v4 := Try.zeroValue4
  t5 := Try.underlying5
  a5 := Try.isAgg5
  z5 := Try.sizeOf5
  v5 := Try.zeroValue5
  t9 := Try.underlying9
  a9 := Try.isAgg9
  z9 := Try.sizeOf9
  v9 := Try.zeroValue9
  t22 := Try.underlying109
  a22 := Try.isAgg109
  z22 := Try.sizeOf109
  v22 := Try.zeroValue109
  t25 := Try.underlying116
  a25 := Try.isAgg116
  z25 := Try.sizeOf116
  v25 := Try.zeroValue116
  t39 := Try.underlying32
  a39 := Try.isAgg32
  z39 := Try.sizeOf32
  v39 := Try.zeroValue32
  t45 := Try.underlying178
  a45 := Try.isAgg178
  z45 := Try.sizeOf178
  v45 := Try.zeroValue178
  t46 := Try.underlying179
  a46 := Try.isAgg179
  z46 := Try.sizeOf179
  v46 := Try.zeroValue179
  t50 := Try.underlying53
  a50 := Try.isAgg53
  z50 := Try.sizeOf53
  v50 := Try.zeroValue53
  t53 := Try.underlying185
  a53 := Try.isAgg185
  z53 := Try.sizeOf185
  v53 := Try.zeroValue185
  t55 := Try.underlying22
  a55 := Try.isAgg22
  z55 := Try.sizeOf22
  v55 := Try.zeroValue22
  t66 := Try.underlying188
  a66 := Try.isAgg188
  z66 := Try.sizeOf188
  v66 := Try.zeroValue188
  t70 := Try.underlying191
  a70 := Try.isAgg191
  z70 := Try.sizeOf191
  v70 := Try.zeroValue191
  t76 := Try.underlying193
  a76 := Try.isAgg193
  z76 := Try.sizeOf193
  v76 := Try.zeroValue193
  t77 := Try.underlying194
  a77 := Try.isAgg194
  z77 := Try.sizeOf194
  v77 := Try.zeroValue194 }
end Go.Proofs
/- Chapter 5, the store, by hand: slices.SortFunc over extents. -/
namespace Go.Proofs.Ytgimcpnelogadaa.Sto
open Go.RowKit Go.Proofs.Ytgimcpnelogadaa.Mem Go.Sort Go.Shelf
set_option linter.unusedVariables false
set_option linter.unusedSimpArgs false

set_option maxRecDepth 100000 in
/-- order, to the block. -/
theorem order_world (i1 a1 l1 i2 a2 l2 : Int) (w : World) :
    Calls Try.prog 64 #[.agg #[.int .i64 i1, .int .i64 a1, .int .i64 l1], .agg #[.int .i64 i2, .int .i64 a2, .int .i64 l2]] w fun e w' => e = .returned (.int .i64 (ordI i1 a1 i2 a2)) ∧ ∃ q os, w' = grow (w.drewN q) os := by
  have hu := Try.underlying114
  go_enter Try.func64, Try.ntmps64
  go_wp2
  refine region_tail 10 (by kernel_rfl) (by kernel_rfl) ?_
  simp only [List.take_succ_cons, List.take_zero, List.drop_succ_cons, List.drop_zero]
  repeat (first | still_step | still_call (calls_same (compare_calls _ _ _)))
  refine wpStill_nil ?_
  go_wp2_with (go_at_call 110; (with_reducible refine (or_calls _ _ _ _ (Blk.newL _ (by simp)).drew).mono ?_); rintro e w' ⟨rfl, rfl⟩)
  go_ret
  refine ⟨rfl, 1, #[.cells #[.int .i64 i1, .int .i64 a1, .int .i64 l1] 114, .cells #[.int .i64 i2, .int .i64 a2, .int .i64 l2] 114, .cells #[.int .i64 (cmpI a1 a2), .int .i64 (cmpI i1 i2)] 3], ?_⟩
  simp only [alloc_eq_grow, grow_grow]
  rfl

def cmpE (x y : Ext) : Int := ordI x.id x.at_ y.id y.at_
theorem cmpE_lt (x y : Ext) : ltOf cmpE x y = decide (x.lt y) := by
  unfold ltOf cmpE
  rw [Bool.eq_iff_iff]
  simp [ord_lt]
theorem cmpE_swo : SWO (ltOf cmpE) where
  irrefl := fun x => by rw [cmpE_lt]; simpa using Ext.lt_irrefl x
  trans := fun x y z h1 h2 => by rw [cmpE_lt] at *; simp at *; exact Ext.lt_trans h1 h2
  ntrans := fun x y z h1 h2 => by
    rw [cmpE_lt] at *
    simp only [decide_eq_false_iff_not] at *
    unfold Ext.lt at *
    omega

theorem cmp_lays (g n : Nat) (w : World) : CmpLays Try.prog 64 #[] extV 3 cmpE g 0 n w := fun m os dk hdk x y => by
  have := order_world x.id x.at_ x.len y.id y.at_ y.len (sortWorldK extV 3 w g 0 m dk os)
  simpa [extV, cmpE] using this

theorem flat_row (d : Array Ext) : flatK extV 3 d = (rowV d.toList).toArray := by
  apply Array.ext
  · simp [rowV_length]
  · intro t h1 h2
    have ht : t < d.size * 3 := by simpa using h1
    have hq : t / 3 < d.size := by omega
    obtain ⟨r0, r1, r2⟩ := rowV_get d.toList (i := t / 3) (by simpa using hq)
    rw [← getElem!_pos (flatK extV 3 d) t h1, get_flatK _ _ _ t ht, getElem!_pos d _ hq]
    simp only [List.getElem_toArray]
    have hm : t % 3 = 0 ∨ t % 3 = 1 ∨ t % 3 = 2 := by omega
    simp only [Array.getElem_toList] at r0 r1 r2
    rcases hm with hm | hm | hm
    · rw [hm]
      have e : t / 3 * 3 = t := by omega
      rw [e] at r0
      have := (List.getElem?_eq_some_iff.1 r0).2
      rw [this]; rfl
    · rw [hm]
      have e : t / 3 * 3 + 1 = t := by omega
      rw [e] at r1
      have := (List.getElem?_eq_some_iff.1 r1).2
      rw [this]; rfl
    · rw [hm]
      have e : t / 3 * 3 + 2 = t := by omega
      rw [e] at r2
      have := (List.getElem?_eq_some_iff.1 r2).2
      rw [this]; rfl

theorem blk_sorted {w : World} {g : Nat} {l : List Ext} {rest : List Value} (h : Blk w g 114 (rowV l ++ rest)) (d : Array Ext) (hd : d.size = l.length) (n : Nat) (os : Array Obj) :
    Blk (sortWorldK extV 3 w g 0 n d os) g 114 (rowV d.toList ++ rest) ∧ Chg [g] w (sortWorldK extV 3 w g 0 n d os) := by
  have hlt := h.lt
  unfold sortWorldK putRowK putRow grow mapBlock Sort.ahead
  refine ⟨?_, ⟨rfl, rfl, rfl, by simp, fun k hk hg => ?_⟩⟩
  · unfold Blk
    simp only
    rw [Array.getElem?_append_left (by simpa using hlt), Array.getElem?_modify, if_pos rfl, show w.heap[g]? = _ from h]
    simp only [Option.map_some, onCells]
    congr 2
    apply Array.ext
    · simp [putCells, rowV_length, hd]
    · intro t h1 h2
      have ht : t < (rowV l ++ rest).length := by simpa [putCells] using h1
      simp only [putCells, Array.getElem_mapIdx, flat_row, Nat.zero_le, true_and, Nat.zero_add, List.size_toArray, id]
      by_cases c : t < (rowV d.toList).length
      · rw [if_pos c, getElem!_pos _ _ (by simpa using c)]
        simp [List.getElem_append_left c]
      · have c' : (rowV l).length ≤ t := by rw [rowV_length] at c ⊢; simp at c; omega
        have e : (rowV d.toList).length = (rowV l).length := by rw [rowV_length, rowV_length]; simp [hd]
        rw [if_neg c]
        simp only [List.getElem_toArray]
        rw [List.getElem_append_right (by omega), List.getElem_append_right (by omega)]
        simp only [e]
  · simp only
    rw [Array.getElem?_append_left (by simpa using hk), Array.getElem?_modify, if_neg (by simp at hg; omega)]

theorem insertion_none (p : Option Addr) (cap : Nat) (fv : Value) (w : World) :
    Calls Try.prog 129 #[.slice p 0 cap, .int .i64 0, .int .i64 0, fv] w fun e w' => e = .returned (.tuple #[]) ∧ w' = w := by
  go_enter Try.func129, Try.ntmps129
  go_wp2
  refine wp_loop_rounds 1 ?_
  rw [rounds_succ]
  go_wp2
  go_end0
  exact ⟨rfl, rfl⟩
set_option maxRecDepth 100000 in
theorem pdq_none (p : Option Addr) (cap : Nat) (lim : Int) (fv : Value) (w : World) :
    Calls Try.prog 114 #[.slice p 0 cap, .int .i64 0, .int .i64 0, .int .i64 lim, fv] w fun e w' => e = .returned (.tuple #[]) ∧ w' = w := by
  go_enter Try.func114, Try.ntmps114
  go_wp2
  refine wp_loop_rounds 1 ?_
  rw [rounds_succ]
  go_wp2_with (go_at_call 129; refine (insertion_none _ _ _ _).mono ?_; rintro e w' ⟨rfl, rfl⟩)
  (try simp only [Exit.inBlock, Exit.then]); refine bodyPost_ret (results_none rfl _ _ _) rfl ?_
  exact ⟨rfl, rfl⟩
theorem sort_none (p : Option Addr) (cap : Nat) (fv : Value) (w : World) :
    Calls Try.prog 69 #[.slice p 0 cap, fv] w fun e w' => e = .returned (.tuple #[]) ∧ w' = w := by
  have hl : ∀ W, Calls Try.prog 115 #[.int .u64 0] W fun e w' => e = .returned (.int .i64 (Lib.bitLen 0 : Nat)) ∧ w' = W := fun W => by
    have h := Any.bits_Len (SlLaysF0.n15.bits (P := Try.prog) (ρ := Try.sortF0_ren) { Try.sortF0 with }) 0 W (by omega) (by omega)
    exact h
  go_enter Try.func69, Try.ntmps69
  go_wp2_with (first | (go_at_call 115; refine (hl _).mono ?_; rintro e w' ⟨rfl, rfl⟩) | (go_at_call 114; refine (pdq_none _ _ _ _ _).mono ?_; rintro e w' ⟨rfl, rfl⟩))
  go_end0
  exact ⟨rfl, rfl⟩

theorem isAggExt (w : World) : (isAgg 114).run Try.prog w = .ok true w := by kernel_rfl

/-- slices.SortFunc(l, order). -/
theorem sort_calls {w : World} {v : Value} {l : List Ext} (h : Row w 114 3 v l.length (rowV l)) (hl : l.length ≤ 1000000000) :
    Calls Try.prog 69 #[v, .func (.func 64) #[] #[]] w fun e w' => ∃ l', e = .returned (.tuple #[]) ∧ l'.Perm l ∧ l'.Pairwise (fun x y => ¬ y.lt x) ∧
      Row w' 114 3 v l'.length (rowV l') ∧ Chg v.ownBlock.toList w w' := by
  rcases h.cases with ⟨rfl, h2, _⟩ | ⟨g, cap, rest, rfl, hb, hn, hcap, hlen⟩
  · have hl0 : l = [] := List.eq_nil_of_length_eq_zero h2
    subst hl0
    refine (sort_none none 0 _ w).mono ?_
    rintro e w' ⟨rfl, rfl⟩
    exact ⟨[], rfl, .nil, .nil, h, Chg.refl _ _⟩
  · have efl : flatK extV 3 l.toArray = (rowV l).toArray := flat_row _
    have hH : HoldsK extV 3 w g 0 l.toArray := fun j hj => by
      rw [efl] at hj ⊢
      have hj' : j < (rowV l).length := by simpa using hj
      rw [getElem!_pos ((rowV l).toArray) j (by simpa using hj')]
      simp only [List.getElem_toArray, id, Nat.zero_add]
      exact ⟨hb.cellAt (by rw [List.getElem?_append_left hj', List.getElem?_eq_getElem hj']), hb.frozen j⟩
    have eg : ∀ args w, (callFunc 64 args).run Try.prog w = .ok (.enter 64 args) w := enters_of Try.func64 (by kernel_rfl) rfl
    have H := AnyQ.slices_SortFunc Try.sortF0 3 isAggExt sizeExt extV (fun _ => rfl) extV_one cmpE cmpE_swo 64 #[] g 0 cap l.toArray w eg (cmp_lays g _ w) hH hb.lt (by simp; omega)
    refine H.mono ?_
    rintro e w' ⟨rfl, d', n, os, hp, hs, rfl⟩
    obtain ⟨hb', hc'⟩ := blk_sorted hb d' (by simpa using hp.1) n os
    have hdl : d'.toList.length = l.length := by simpa using hp.1
    refine ⟨d'.toList, rfl, ?_, ?_, ?_, hc'.mono (by simp [Value.ownBlock])⟩
    · have h1 := hp.2.2
      have e1 : d'.extract 0 l.toArray.size = d' := by rw [← hp.1]; simp
      have e2 : l.toArray.extract 0 l.toArray.size = l.toArray := by simp
      rw [e1, e2] at h1
      simpa using h1
    · rw [List.pairwise_iff_getElem]
      intro i j hi hj hij
      have := hs i j (Nat.zero_le _) hij (by simpa [hp.1] using hj)
      rw [cmpE_lt, getElem!_pos _ _ (by simpa using hj), getElem!_pos _ _ (by simpa using hi)] at this
      simpa using this
    · rw [hdl]
      refine Row.mk hb' (by rw [rowV_length, hdl]) hn hcap ?_
      rw [List.length_append, rowV_length] at hlen ⊢
      rw [hdl]; exact hlen
end Go.Proofs.Ytgimcpnelogadaa.Sto
/- Chapter 5, the store, by hand: Pack. -/
namespace Go.Proofs.Ytgimcpnelogadaa.Sto
open Go.RowKit Go.Proofs.Ytgimcpnelogadaa.Mem
set_option linter.unusedVariables false
set_option linter.unusedSimpArgs false

/-- The extents' list behind k rounds of a packing. -/
def packK (l : List Ext) (k : Nat) : List Ext := packGo 0 (l.take k) ++ l.drop k
theorem packK_length (l : List Ext) (k : Nat) : (packK l k).length = l.length := by simp [packK, packGo_length]; omega
theorem packK_ids (l : List Ext) (k : Nat) : (packK l k).map Ext.id = l.map Ext.id := by
  rw [packK, List.map_append, packGo_ids, ← List.map_append, List.take_append_drop]
theorem packK_zero (l : List Ext) : packK l 0 = l := by simp [packK, packGo]
theorem packK_all (l : List Ext) : packK l l.length = packGo 0 l := by simp [packK]
theorem packK_getElem? (l : List Ext) {k : Nat} (hk : k < l.length) : (packK l k)[k]? = some l[k] := packGo_getElem? l hk
theorem packK_succ (l : List Ext) {k : Nat} (hk : k < l.length) : packK l (k + 1) = (packK l k).set k { l[k] with at_ := total (l.take k) } := (packGo_take_set l hk).symm

theorem rowV_set (l : List Ext) {k : Nat} (hk : k < l.length) (a : Nat) : rowV (l.set k { l[k] with at_ := a }) = (rowV l).set (k * 3 + 1) (.int .i64 (a : Int)) := by
  induction l generalizing k with
  | nil => cases hk
  | cons x xs ih =>
    cases k with
    | zero => simp [rowV, extV]
    | succ j =>
      have := ih (k := j) (by simpa using hk)
      simp only [List.getElem_cons_succ, List.set_cons_succ, rowV_cons, this]
      rw [List.set_append_right _ _ (by rw [extV_length]; omega), extV_length]
      congr 2; omega

theorem atOf_set {l : List Ext} (hn : (l.map Ext.id).Nodup) {k : Nat} (hk : k < l.length) (a : Nat) (j : Int) : atOf (l.set k { l[k] with at_ := a }) j = if j = (l[k].id : Int) then some (a : Int) else atOf l j := by
  have hids : (l.set k { l[k] with at_ := a }).map Ext.id = l.map Ext.id := by
    rw [List.map_set]
    apply List.ext_getElem?
    intro i
    rw [List.getElem?_set]
    split
    · rename_i e; subst e
      simp [hk]
    · rfl
  have hn' : ((l.set k { l[k] with at_ := a }).map Ext.id).Nodup := by rw [hids]; exact hn
  split
  · rename_i e; subst e
    exact atOf_some (x := { l[k] with at_ := a }) hn' (List.mem_set hk _)
  · rename_i e
    by_cases c : ∃ x ∈ l, (x.id : Int) = j
    · obtain ⟨x, hx, rfl⟩ := c
      rw [atOf_some hn hx]
      refine atOf_some hn' ?_
      obtain ⟨i, hi, rfl⟩ := List.getElem_of_mem hx
      have hik : k ≠ i := fun h => e (by subst h; rfl)
      have := List.getElem_mem (l := l.set k { l[k] with at_ := a }) (n := i) (by simpa using hi)
      rwa [List.getElem_set_ne hik] at this
    · rw [atOf_none (fun x hx e' => c ⟨x, hx, e'⟩), atOf_none (fun x hx e' => ?_)]
      obtain ⟨i, hi, rfl⟩ := List.getElem_of_mem hx
      have hi' : i < l.length := by simpa using hi
      rw [List.getElem_set] at e'
      split at e'
      · rename_i h; exact e e'.symm
      · exact c ⟨_, List.getElem_mem hi', e'⟩

/-- A store into a map, its run being known. -/
theorem wpList_mapUpdate {P : Program} {w : World} {ops : Array Oper} {rest : List Oper} {o : Oper} {a : Act} {Q : Exit → Act → World → Prop} (hgd : o.guard = none) (m x v : Operand) (t : TypeId) (ho : o.op = Op.mapUpdate t m x v)
    (vm vx vv : Value) (hm : a.eval m = vm) (hx : a.eval x = vx) (hv : a.eval v = vv) (w' : World) (hr : (Instr.mapUpdate t vm vx vv).run P w = .ok () w') (h : wpList P ops Q rest (a.put o.dst undef) w') : wpList P ops Q (o :: rest) a w := by
  refine wpList_plain hgd fun K' hK' => ?_
  unfold Oper.wp
  simp [execOp, ho, hm, hx, hv, hr, Result.andThen]
  exact hK' _ _ h
theorem splice_front {α : Type} (a r b : List α) (o : Nat) (h : o + b.length ≤ a.length) : splice (a ++ r) o b = splice a o b ++ r := by
  rw [splice_def, splice_def, List.take_append_of_le_length (by omega), List.drop_append_of_le_length (by omega)]
  simp only [List.append_assoc]
theorem u8V_splice (r b : List UInt8) (o : Nat) : u8V (splice r o b) = splice (u8V r) o (u8V b) := by
  simp [splice_def, u8V]
theorem u8V_length (r : List UInt8) : (u8V r).length = r.length := by simp [u8V]
theorem u8V_one (r : List UInt8) : ∀ v ∈ u8V r, v.oneCell' = true := by
  intro v hv
  simp only [u8V, List.mem_map] at hv
  obtain ⟨b, _, rfl⟩ := hv
  rfl
theorem u8V_sl (r : List UInt8) (a n j : Nat) (v : Value) (h : (u8V (sl r a n))[j]? = some v) : (u8V r)[a + j]? = some v := by
  simp only [u8V, List.getElem?_map] at h ⊢
  by_cases c : j < n
  · rwa [sl_getElem? _ _ _ _ c] at h
  · have : (sl r a n)[j]? = none := List.getElem?_eq_none (by simp [sl]; omega)
    rw [this] at h
    cases h
theorem splice_nil {α : Type} (r : List α) (o : Nat) : splice r o [] = r := by simp [splice_def]
theorem szU8 : (Try.prog.info? 5).map (·.size) = some 1 := by kernel_rfl

theorem rowV_packK (l : List Ext) {k : Nat} (hk : k < l.length) : rowV (packK l (k + 1)) = (rowV (packK l k)).set (k * 3 + 1) (.int .i64 (total (l.take k) : Nat)) := by
  obtain ⟨h, e⟩ := List.getElem?_eq_some_iff.1 (packK_getElem? l hk)
  rw [packK_succ l hk, ← e, rowV_set _ h]
theorem atOf_packK {l : List Ext} (hn : (l.map Ext.id).Nodup) {k : Nat} (hk : k < l.length) (j : Int) : atOf (packK l (k + 1)) j = if j = (l[k].id : Int) then some (total (l.take k) : Int) else atOf (packK l k) j := by
  obtain ⟨h, e⟩ := List.getElem?_eq_some_iff.1 (packK_getElem? l hk)
  rw [packK_succ l hk, ← e, atOf_set (by rw [packK_ids]; exact hn) h]
theorem packK_some {l : List Ext} {k : Nat} {j : Int} (h : (atOf (packK l k) j).isSome) : j ∈ l.map fun x => (x.id : Int) := by
  obtain ⟨x, hx, rfl⟩ := atOf_isSome h
  have : x.id ∈ (packK l k).map Ext.id := List.mem_map_of_mem hx
  rw [packK_ids, List.mem_map] at this
  obtain ⟨y, hy, e⟩ := this
  exact List.mem_map.2 ⟨y, hy, by rw [e]⟩

set_option maxHeartbeats 4000000 in
set_option maxRecDepth 100000 in
theorem pack_calls {w : World} {p mb : Nat} {s : St} {rawv allv : Value} (h : StoAt w p s rawv allv mb) (ho : Lies s) (hl : s.all.length ≤ 1000000000) (hr : s.raw.length ≤ 1000000000000) (hI : ∀ x ∈ s.all, I64 (x.id : Int)) :
    Calls Try.prog 27 #[.pointer (some ⟨p, 0, none⟩)] w fun e w' => ∃ s' rawv', e = .returned (.tuple #[]) ∧ StoAt w' p s' rawv' allv mb ∧ rawv'.ownBlock = rawv.ownBlock ∧ Chg (foot p rawv allv mb) w w' ∧
      ∃ raw, Packing s.all s.raw s.all.length raw ∧ s'.raw = raw.take (total s.all) ∧ s'.all.Perm (packGo 0 s.all) ∧ s'.all.Pairwise Ext.lt ∧ s'.used = s.used ∧ s'.most = s.most := by
  have H := Mem.Aside.mk h
  have HO := Mem.Aside.mk ho
  have HI := Mem.Aside.mk hI
  have h1 := h.c1
  obtain ⟨a0, c0, rfl⟩ := Row_form h.all
  clear h ho hI
  go_enter Try.func27, Try.ntmps27
  go_wp2
  go_loopw [2, 10] (fun e i wr => ∃ (k : Nat) (raw : List UInt8), i = .int .i64 (k : Int) ∧ e = .int .i64 (total (s.all.take k) : Nat) ∧ k ≤ s.all.length ∧ Mem.Aside (Packing s.all s.raw k raw) ∧ Mem.Aside (Blk wr p 111 (stV rawv (.slice a0 s.all.length c0) (.map (some mb)) s.used s.most)) ∧
      Mem.Aside (Row wr 5 1 rawv s.raw.length (u8V raw)) ∧ Mem.Aside (Row wr 114 3 (.slice a0 s.all.length c0) s.all.length (rowV (packK s.all k))) ∧ Mem.Aside (IMap Try.prog 3 wr mb s.all.length (atOf (packK s.all k))) ∧ Mem.Aside (Chg (foot p rawv (.slice a0 s.all.length c0) mb) w wr))
    (fun _ i _ => s.all.length - (intOf i).toNat)
  case atStart => exact ⟨0, s.raw, rfl, rfl, Nat.zero_le _, ⟨Packing.start _ _⟩, ⟨H.out.cells⟩, ⟨H.out.raw⟩, ⟨by rw [packK_zero]; exact H.out.all⟩, ⟨by rw [packK_zero]; exact H.out.by_⟩, ⟨Chg.refl _ _⟩⟩
  case round =>
    obtain ⟨k, raw, rfl, rfl, hk, HP, HS, HR, HA, HM, HC⟩ := hrel
    by_cases c : k < s.all.length
    · rcases HA.out.cases with ⟨_, h2, _⟩ | ⟨g, cap, rest, hv, hb, hn, hcap, hlen⟩
      · omega
      cases hv
      have hpk : (packK s.all k)[k]? = some s.all[k] := packK_getElem? s.all c
      obtain ⟨hkl, hpk'⟩ := List.getElem?_eq_some_iff.1 hpk
      obtain ⟨r0, r1, r2⟩ := rowV_get (packK s.all k) hkl
      rw [hpk'] at r0 r1 r2
      obtain ⟨x, hx⟩ : ∃ x, x = s.all[k] := ⟨_, rfl⟩
      rw [← hx] at r0 r1 r2
      have k0 := hb.cellAt (List.getElem?_append_left_some (b := rest) r0)
      have k1 := hb.cellAt (List.getElem?_append_left_some (b := rest) r1)
      have k2 := hb.cellAt (List.getElem?_append_left_some (b := rest) r2)
      have HX := Mem.Aside.mk hx
      have HL := Mem.Aside.mk (And.intro hn (And.intro hcap hlen))
      have HBG := Mem.Aside.mk hb
      have R1 := Mem.Aside.mk r1
      have hc' : (k : Int) < (s.all.length : Int) := by omega
      clear hpk hpk' hkl r0 r1 r2 hx hb hn hcap hlen
      go_wp2
      have HS1 := Mem.Aside.mk (HS.out.alloc (.cells #[.int .i64 (x.id : Int), .int .i64 (x.at_ : Int), .int .i64 (x.len : Int)] 114))
      have HR1 := Mem.Aside.mk (HR.out.alloc (.cells #[.int .i64 (x.id : Int), .int .i64 (x.at_ : Int), .int .i64 (x.len : Int)] 114))
      have HB1 := Mem.Aside.mk (HBG.out.alloc (.cells #[.int .i64 (x.id : Int), .int .i64 (x.at_ : Int), .int .i64 (x.len : Int)] 114))
      have HM1 := Mem.Aside.mk (HM.out.alloc (.cells #[.int .i64 (x.id : Int), .int .i64 (x.at_ : Int), .int .i64 (x.len : Int)] 114))
      have HC1 := Mem.Aside.mk (HC.out.alloc (.cells #[.int .i64 (x.id : Int), .int .i64 (x.at_ : Int), .int .i64 (x.len : Int)] 114))
      have HX1 : Mem.Aside (Blk (wr.alloc (.cells #[.int .i64 (x.id : Int), .int .i64 (x.at_ : Int), .int .i64 (x.len : Int)] 114)) wr.heap.size 114 (extV x)) := ⟨Blk.newL (extV x) rfl⟩
      obtain ⟨xb, hxb⟩ : ∃ xb, xb = wr.heap.size := ⟨_, rfl⟩
      rw [← hxb] at HX1 ⊢
      have HXB : Mem.Aside (xb ≠ p ∧ xb ≠ g ∧ xb ≠ mb ∧ rawv.ownBlock ≠ some xb) := ⟨by
        have h1 := HS.out.lt
        have h2 := HBG.out.lt
        have h3 := HM.out.lt
        refine ⟨by omega, by omega, by omega, fun e => ?_⟩
        have := HR.out.lt e
        omega⟩
      clear k0 k1 k2 hxb
      generalize wr.alloc (.cells #[.int .i64 (x.id : Int), .int .i64 (x.at_ : Int), .int .i64 (x.len : Int)] 114) = W1 at HS1 HR1 HB1 HM1 HC1 HX1 ⊢
      obtain ⟨N, hN⟩ : ∃ N, N = x.len := ⟨_, rfl⟩
      obtain ⟨A, hA⟩ : ∃ A, A = x.at_ := ⟨_, rfl⟩
      obtain ⟨E, hE⟩ : ∃ E, E = total (s.all.take k) := ⟨_, rfl⟩
      have hin : A + N ≤ s.raw.length ∧ E + N ≤ s.raw.length ∧ (0 < N → E ≤ A) := by
        have h1 := HO.out.lay.inside s.all[k] (List.getElem_mem c)
        have h2 := up_ge s.all[k].len
        have h3 := HO.out.lay.total_take (k + 1)
        rw [total_take_succ s.all c] at h3
        rw [hN, hA, hE, HX.out]
        exact ⟨by omega, by omega, fun h0 => HO.out.lay.ahead_at c h0⟩
      obtain ⟨i1, i2, i3⟩ := hin
      have HP1 := Mem.Aside.mk (HP.out.step HO.out.lay c)
      rw [← HX.out, ← hN, ← hA, ← hE] at HP1
      have x0 := HX1.out.cellAt (i := 0) rfl
      have x1 := HX1.out.cellAt (i := 1) rfl
      have x2 := HX1.out.cellAt (i := 2) rfl
      have s0 := HS1.out.cellAt (i := 0) rfl
      rw [← hA] at x1
      rw [← hN] at x2
      rw [← hE]
      have HNA := Mem.Aside.mk (And.intro hN (And.intro hA hE))
      have hw := (IntWalk.i64_in ((A : Int) + (N : Int)) (by omega) : IntKind.i64.wrap ((A : Int) + (N : Int)) = ((A + N : Nat) : Int))
      clear hN hA hE
      have hw0 : IntKind.i64.wrap 0 = 0 := by decide
      have hwA := (IntWalk.i64_in (A : Int) (by omega) : IntKind.i64.wrap (A : Int) = (A : Int))
      rcases HR1.out.cases with ⟨rfl, h2, h3⟩ | ⟨gr, rc, rr, rfl, hbr, hrn, hrc, hrl⟩
      · obtain rfl : A = 0 := by omega
        obtain rfl : N = 0 := by omega
        obtain rfl : E = 0 := by omega
        refine region_tail 18 (by kernel_rfl) (by kernel_rfl) ?_
        simp only [List.take_succ_cons, List.take_zero, List.drop_succ_cons, List.drop_zero]
        repeat still_step
        refine wpStill_nil ?_
        refine wpList_builtin2 _ (by rfl) .copy _ _ _ (by rfl) (.slice none 0 0) (.slice none 0 0) (by rfl) (by rfl) _ _ (fun c => run_copy_zero W1.drew Try.underlying57 (by kernel_rfl) (by simp) c) ?_
        have HT : Mem.Aside (∃ raw2, Packing s.all s.raw (k + 1) raw2 ∧ Row W1.drew 5 1 (.slice none 0 0) s.raw.length (u8V raw2)) := ⟨raw, by have := HP1.out; rw [sl_zero, splice_nil] at this; exact this, HR1.out.drew⟩
        have HS2 := Mem.Aside.mk HS1.out.drew
        have HB2 := Mem.Aside.mk HB1.out.drew
        have HM2 := Mem.Aside.mk HM1.out.drew
        have HC2 := Mem.Aside.mk HC1.out.drew
        have HX2 := Mem.Aside.mk HX1.out.drew
        clear x0 x1 x2 s0
        generalize W1.drew = W2 at HT HS2 HB2 HM2 HC2 HX2 ⊢
        obtain ⟨raw2, hP2, hR2⟩ := HT.out
        have HP2 := Mem.Aside.mk hP2
        have HR2 := Mem.Aside.mk hR2
        have hgp : g ≠ p := by have := H.out.p_all; intro e; exact this (by rw [e]; rfl)
        have hgm : g ≠ mb := by have := H.out.mb_all; intro e; exact this (by rw [e]; rfl)
        have hgx : xb ≠ g := HXB.out.2.1
        have s1 := HS2.out.cellAt (i := 1) rfl
        have k1 := HB2.out.cellAt (List.getElem?_append_left_some (b := rest) R1.out)
        have kf := HB2.out.frozen (k * 3 + 1)
        have HR3 := Mem.Aside.mk (hR2.farCell (p := ⟨g, k * 3 + 1, none⟩) (by intro e; exact (H.out.raw_all e) rfl) (.int .i64 (0 : Int)))
        have HB3 : Mem.Aside (Blk (W2.setCell ⟨g, k * 3 + 1, none⟩ (.int .i64 (0 : Int))) g 114 (rowV (packK s.all (k + 1)) ++ rest)) := ⟨by
          rw [show (0 : Int) = ((total (s.all.take k) : Nat) : Int) by have := HNA.out.2.2; omega]
          have := HB2.out.set (k * 3 + 1) (.int .i64 ((total (s.all.take k) : Nat) : Int))
          rwa [List.set_append_left _ _ (by rw [rowV_length, packK_length]; omega), ← rowV_packK s.all c] at this⟩
        have HS3 := Mem.Aside.mk (HS2.out.far (p := ⟨g, k * 3 + 1, none⟩) (Ne.symm hgp) (.int .i64 (0 : Int)))
        have HM3 := Mem.Aside.mk (HM2.out.farCell (p := ⟨g, k * 3 + 1, none⟩) (Ne.symm hgm) (.int .i64 (0 : Int)))
        have HX3 := Mem.Aside.mk (HX2.out.far (p := ⟨g, k * 3 + 1, none⟩) hgx (.int .i64 (0 : Int)))
        have HC3 := Mem.Aside.mk (HC2.out.setCell (p := ⟨g, k * 3 + 1, none⟩) (.inl (mem_foot.2 (.inr (.inr (.inr rfl))))) (.int .i64 (0 : Int)))
        clear hP2 hR2 hgp hgm hgx
        go_wp2
        clear s1 k1 kf
        generalize W2.setCell ⟨g, k * 3 + 1, none⟩ (.int .i64 (0 : Int)) = W3 at HR3 HB3 HS3 HM3 HX3 HC3 ⊢
        have s2 := HS3.out.cellAt (i := 2) rfl
        have x0 := HX3.out.cellAt (i := 0) rfl
        refine region_tail 7 (by kernel_rfl) (by kernel_rfl) ?_
        simp only [List.take_succ_cons, List.take_zero, List.drop_succ_cons, List.drop_zero]
        repeat still_step
        refine wpStill_nil ?_
        obtain ⟨W4, hrun, hM4, hC4⟩ := HM3.out.drew.store Try.underlying52 Try.underlying3 (by omega) (x.id : Int) (0 : Int) (I64.wf (by have := HI.out s.all[k] (List.getElem_mem c); rw [← HX.out] at this; exact this)) (WalkArith.wf_i64 ⟨by omega, by omega⟩)
        refine wpList_mapUpdate (by rfl) _ _ _ _ (by rfl) (.map (some mb)) (.int .i64 (x.id : Int)) (.int .i64 (0 : Int)) (by rfl) (by rfl) (by rfl) W4 hrun ?_
        have HR4 := Mem.Aside.mk (HR3.out.drew.chg hC4 (by intro k hk hm; simp at hm; subst hm; exact H.out.mb_raw hk))
        have HB4 := Mem.Aside.mk (HB3.out.drew.chg hC4 (by have := H.out.mb_all; intro hm; simp at hm; subst hm; exact this rfl))
        have HS4 := Mem.Aside.mk (HS3.out.drew.chg hC4 (by have := H.out.p_mb; simpa using this))
        have HX4 := Mem.Aside.mk (HX3.out.drew.chg hC4 (by have := HXB.out.2.2.1; simpa using this))
        have HC4 := Mem.Aside.mk (HC3.out.drew.then hC4 (fun y hy => by simp at hy; subst hy; exact .inl (mem_foot.2 (.inr (.inl rfl)))))
        have HM4 : Mem.Aside (IMap Try.prog 3 W4 mb s.all.length (atOf (packK s.all (k + 1)))) := ⟨by
          have h1 := hM4.congr (g := atOf (packK s.all (k + 1))) (fun j _ => by rw [atOf_packK HO.out.lay.ids c, ← HX.out]; split <;> simp_all [HNA.out.2.2])
          have h2 := h1.tight Try.underlying3 (s.all.map fun x => (x.id : Int)) (fun j hj => packK_some hj)
          rwa [List.length_map] at h2⟩
        clear s2 x0 hrun hM4 hC4
        have x2 := HX4.out.cellAt (i := 2) rfl
        have hxl : x.len ≤ 1000000000000 := by
          have h1 := HO.out.lay.inside s.all[k] (List.getElem_mem c)
          have h2 := up_ge s.all[k].len
          rw [HX.out]; omega
        have HU := Mem.Aside.mk (fun (w : World) => up_calls x.len w hxl)
        have hsum : 0 + up x.len ≤ 1000000000000 := by
          have h3 := HO.out.lay.total_take (k + 1)
          rw [total_take_succ s.all c, ← HX.out] at h3
          have := HNA.out.2.2
          omega
        obtain ⟨U, hU⟩ : ∃ U, U = up x.len := ⟨_, rfl⟩
        rw [← hU] at HU hsum
        have HUU := Mem.Aside.mk hU
        clear hU hxl
        have hw1 := (IntWalk.i64_in ((0 : Int) + (U : Int)) (by omega) : IntKind.i64.wrap ((0 : Int) + (U : Int)) = ((0 + U : Nat) : Int))
        have hw2 := (IntWalk.i64_in ((k : Int) + 1) (by omega) : IntKind.i64.wrap ((k : Int) + 1) = ((k + 1 : Nat) : Int))
        go_wp2_with (go_at_call 61; (with_reducible refine (HU.out _).mono ?_); rintro e w5 ⟨rfl, rfl⟩)
        go_roundw
        case rel =>
          refine ⟨k + 1, raw2, by go_num, ?_, by omega, HP2, HS4, HR4, ⟨?_⟩, HM4, HC4⟩
          · rw [total_take_succ s.all c, ← HX.out, ← HNA.out.2.2, HUU.out]; simp
          · exact Row.mk HB4.out (by rw [rowV_length, packK_length]) HL.out.1 HL.out.2.1 (by have := HL.out.2.2; rw [List.length_append, rowV_length, packK_length] at this ⊢; exact this)
        case measure => simp [intOf]; omega
      · have q1 : A + N ≤ rc := by omega
        have q2 : A ≤ rc := by omega
        have q3 : E ≤ rc := by omega
        have q0 : E ≤ s.raw.length := by omega
        have q6 : A ≤ A + N := by omega
        have q7 : (0 : Int) ≤ (A : Int) + (N : Int) := by omega
        have q8 : (A : Int) + (N : Int) ≤ (rc : Int) := by omega
        have q9 : ((A : Int) + (N : Int)).toNat = A + N := by omega
        by_cases h0 : N = 0
        · subst h0
          refine region_tail 18 (by kernel_rfl) (by kernel_rfl) ?_
          simp only [List.take_succ_cons, List.take_zero, List.drop_succ_cons, List.drop_zero]
          repeat still_step
          refine wpStill_nil ?_
          refine wpList_builtin2 _ (by rfl) .copy _ _ _ (by rfl) (.slice _ (s.raw.length - E) (rc - E)) (.slice _ 0 (rc - A)) (by rfl) (by rfl) _ _ (fun c => run_copy_zero W1.drew Try.underlying57 (by kernel_rfl) (by simp) c) ?_
          generalize Value.slice (if rc = E then some (⟨gr, 0, none⟩ : Addr) else some ⟨gr, E, none⟩) (s.raw.length - E) (rc - E) = Z1
          generalize Value.slice (if rc = A then some (⟨gr, 0, none⟩ : Addr) else some ⟨gr, A, none⟩) 0 (rc - A) = Z2
          have HT : Mem.Aside (∃ raw2, Packing s.all s.raw (k + 1) raw2 ∧ Row W1.drew 5 1 (.slice (some ⟨gr, 0, none⟩) s.raw.length rc) s.raw.length (u8V raw2)) := ⟨raw, by have := HP1.out; rw [sl_zero, splice_nil] at this; exact this, HR1.out.drew⟩
          have HS2 := Mem.Aside.mk HS1.out.drew
          have HB2 := Mem.Aside.mk HB1.out.drew
          have HM2 := Mem.Aside.mk HM1.out.drew
          have HC2 := Mem.Aside.mk HC1.out.drew
          have HX2 := Mem.Aside.mk HX1.out.drew
          clear x0 x1 x2 s0
          generalize W1.drew = W2 at HT HS2 HB2 HM2 HC2 HX2 ⊢
          obtain ⟨raw2, hP2, hR2⟩ := HT.out
          have HP2 := Mem.Aside.mk hP2
          have HR2 := Mem.Aside.mk hR2
          have hgp : g ≠ p := by have := H.out.p_all; intro e; exact this (by rw [e]; rfl)
          have hgm : g ≠ mb := by have := H.out.mb_all; intro e; exact this (by rw [e]; rfl)
          have hgx : xb ≠ g := HXB.out.2.1
          have s1 := HS2.out.cellAt (i := 1) rfl
          have k1 := HB2.out.cellAt (List.getElem?_append_left_some (b := rest) R1.out)
          have kf := HB2.out.frozen (k * 3 + 1)
          have HR3 := Mem.Aside.mk (hR2.farCell (p := ⟨g, k * 3 + 1, none⟩) (by intro e; exact (H.out.raw_all e) rfl) (.int .i64 (E : Int)))
          have HB3 : Mem.Aside (Blk (W2.setCell ⟨g, k * 3 + 1, none⟩ (.int .i64 (E : Int))) g 114 (rowV (packK s.all (k + 1)) ++ rest)) := ⟨by
            rw [show (E : Int) = ((total (s.all.take k) : Nat) : Int) by have := HNA.out.2.2; omega]
            have := HB2.out.set (k * 3 + 1) (.int .i64 ((total (s.all.take k) : Nat) : Int))
            rwa [List.set_append_left _ _ (by rw [rowV_length, packK_length]; omega), ← rowV_packK s.all c] at this⟩
          have HS3 := Mem.Aside.mk (HS2.out.far (p := ⟨g, k * 3 + 1, none⟩) (Ne.symm hgp) (.int .i64 (E : Int)))
          have HM3 := Mem.Aside.mk (HM2.out.farCell (p := ⟨g, k * 3 + 1, none⟩) (Ne.symm hgm) (.int .i64 (E : Int)))
          have HX3 := Mem.Aside.mk (HX2.out.far (p := ⟨g, k * 3 + 1, none⟩) hgx (.int .i64 (E : Int)))
          have HC3 := Mem.Aside.mk (HC2.out.setCell (p := ⟨g, k * 3 + 1, none⟩) (.inl (mem_foot.2 (.inr (.inr (.inr rfl))))) (.int .i64 (E : Int)))
          clear hP2 hR2 hgp hgm hgx
          go_wp2
          clear s1 k1 kf
          generalize W2.setCell ⟨g, k * 3 + 1, none⟩ (.int .i64 (E : Int)) = W3 at HR3 HB3 HS3 HM3 HX3 HC3 ⊢
          have s2 := HS3.out.cellAt (i := 2) rfl
          have x0 := HX3.out.cellAt (i := 0) rfl
          refine region_tail 7 (by kernel_rfl) (by kernel_rfl) ?_
          simp only [List.take_succ_cons, List.take_zero, List.drop_succ_cons, List.drop_zero]
          repeat still_step
          refine wpStill_nil ?_
          obtain ⟨W4, hrun, hM4, hC4⟩ := HM3.out.drew.store Try.underlying52 Try.underlying3 (by omega) (x.id : Int) (E : Int) (I64.wf (by have := HI.out s.all[k] (List.getElem_mem c); rw [← HX.out] at this; exact this)) (WalkArith.wf_i64 ⟨by omega, by omega⟩)
          refine wpList_mapUpdate (by rfl) _ _ _ _ (by rfl) (.map (some mb)) (.int .i64 (x.id : Int)) (.int .i64 (E : Int)) (by rfl) (by rfl) (by rfl) W4 hrun ?_
          have HR4 := Mem.Aside.mk (HR3.out.drew.chg hC4 (by intro k hk hm; simp at hm; subst hm; exact H.out.mb_raw hk))
          have HB4 := Mem.Aside.mk (HB3.out.drew.chg hC4 (by have := H.out.mb_all; intro hm; simp at hm; subst hm; exact this rfl))
          have HS4 := Mem.Aside.mk (HS3.out.drew.chg hC4 (by have := H.out.p_mb; simpa using this))
          have HX4 := Mem.Aside.mk (HX3.out.drew.chg hC4 (by have := HXB.out.2.2.1; simpa using this))
          have HC4 := Mem.Aside.mk (HC3.out.drew.then hC4 (fun y hy => by simp at hy; subst hy; exact .inl (mem_foot.2 (.inr (.inl rfl)))))
          have HM4 : Mem.Aside (IMap Try.prog 3 W4 mb s.all.length (atOf (packK s.all (k + 1)))) := ⟨by
            have h1 := hM4.congr (g := atOf (packK s.all (k + 1))) (fun j _ => by rw [atOf_packK HO.out.lay.ids c, ← HX.out]; split <;> simp_all [HNA.out.2.2])
            have h2 := h1.tight Try.underlying3 (s.all.map fun x => (x.id : Int)) (fun j hj => packK_some hj)
            rwa [List.length_map] at h2⟩
          clear s2 x0 hrun hM4 hC4
          have x2 := HX4.out.cellAt (i := 2) rfl
          have hxl : x.len ≤ 1000000000000 := by
            have h1 := HO.out.lay.inside s.all[k] (List.getElem_mem c)
            have h2 := up_ge s.all[k].len
            rw [HX.out]; omega
          have HU := Mem.Aside.mk (fun (w : World) => up_calls x.len w hxl)
          have hsum : E + up x.len ≤ 1000000000000 := by
            have h3 := HO.out.lay.total_take (k + 1)
            rw [total_take_succ s.all c, ← HX.out] at h3
            have := HNA.out.2.2
            omega
          obtain ⟨U, hU⟩ : ∃ U, U = up x.len := ⟨_, rfl⟩
          rw [← hU] at HU hsum
          have HUU := Mem.Aside.mk hU
          clear hU hxl
          have hw1 := (IntWalk.i64_in ((E : Int) + (U : Int)) (by omega) : IntKind.i64.wrap ((E : Int) + (U : Int)) = ((E + U : Nat) : Int))
          have hw2 := (IntWalk.i64_in ((k : Int) + 1) (by omega) : IntKind.i64.wrap ((k : Int) + 1) = ((k + 1 : Nat) : Int))
          go_wp2_with (go_at_call 61; (with_reducible refine (HU.out _).mono ?_); rintro e w5 ⟨rfl, rfl⟩)
          go_roundw
          case rel =>
            refine ⟨k + 1, raw2, by go_num, ?_, by omega, HP2, HS4, HR4, ⟨?_⟩, HM4, HC4⟩
            · rw [total_take_succ s.all c, ← HX.out, ← HNA.out.2.2, HUU.out]; simp
            · exact Row.mk HB4.out (by rw [rowV_length, packK_length]) HL.out.1 HL.out.2.1 (by have := HL.out.2.2; rw [List.length_append, rowV_length, packK_length] at this ⊢; exact this)
          case measure => simp [intOf]; omega
        · have q4 : ¬ rc = A := by omega
          have q5 : ¬ rc = E := by omega
          refine region_tail 18 (by kernel_rfl) (by kernel_rfl) ?_
          simp only [List.take_succ_cons, List.take_zero, List.drop_succ_cons, List.drop_zero]
          repeat still_step
          refine wpStill_nil ?_
          have hsl : (sl raw A N).length = N := sl_length (by rw [HP.out.length]; omega)
          have hd : Nat.min N (s.raw.length - E) = N := Nat.min_eq_left (by omega)
          have hrl' : (u8V raw).length = s.raw.length := by rw [u8V_length, HP.out.length]
          have hbd := Mem.Aside.mk hbr.drew
          have hRUN := Mem.Aside.mk (fun consts ty => run_copy_blk (P := Try.prog) W1.drew (dT := 57) (sT := 57) (ty := ty) Try.underlying57 szU8 (g := gr) (o := E) (dLen := s.raw.length - E) (dCap := rc - E) (ad := ⟨gr, A, none⟩) (sLen := N) (sCap := rc - A) hbd.out (cs := u8V (sl raw A N))
            (by rw [u8V_length, hsl, hd]; omega) (hbd.out.from (fun j u hu => List.getElem?_append_left_some (u8V_sl raw A N j u hu))) (by rw [List.length_append, u8V_length, hsl, hrl']; omega) (u8V_one _) consts)
          rw [hd] at hRUN
          refine wpList_builtin2 _ (by rfl) .copy _ _ _ (by rfl) (.slice (some ⟨gr, E, none⟩) (s.raw.length - E) (rc - E)) (.slice (some ⟨gr, A, none⟩) N (rc - A)) (by rfl) (by rfl) _ _ (fun c => hRUN.out c _) ?_
          have hsp : splice (u8V raw ++ rr) E (u8V (sl raw A N)) = u8V (splice raw E (sl raw A N)) ++ rr := by rw [splice_front _ _ _ _ (by rw [u8V_length, hsl, hrl']; omega), u8V_splice]
          have hB4 := hbd.out.setRow (splice (u8V raw ++ rr) E (u8V (sl raw A N)))
          rw [hsp] at hB4 ⊢
          have hgp : gr ≠ p := by have := H.out.p_raw; intro e; exact this (by rw [e]; rfl)
          have hgm : gr ≠ mb := by have := H.out.mb_raw; intro e; exact this (by rw [e]; rfl)
          have hgg : gr ≠ g := by rintro rfl; exact absurd (hbr.inj HB1.out).1 (by decide)
          have hgx : gr ≠ xb := by have := HXB.out.2.2.2; intro e; exact this (by rw [e]; rfl)
          have hrow : Row (W1.drew.setRow gr (u8V (splice raw E (sl raw A N)) ++ rr).toArray) 5 1 (.slice (some ⟨gr, 0, none⟩) s.raw.length rc) s.raw.length (u8V (splice raw E (sl raw A N))) := by
            have hlen : (u8V (splice raw E (sl raw A N))).length = s.raw.length := by rw [u8V_length, length_splice _ _ _ (by rw [hsl, HP.out.length]; omega), HP.out.length]
            refine Row.mk hB4 (by rw [hlen]; omega) hrn hrc ?_
            rw [List.length_append, hrl'] at hrl
            rw [List.length_append, hlen]; omega
          have HT : Mem.Aside (∃ raw2, Packing s.all s.raw (k + 1) raw2 ∧ Row (W1.drew.setRow gr (u8V (splice raw E (sl raw A N)) ++ rr).toArray) 5 1 (.slice (some ⟨gr, 0, none⟩) s.raw.length rc) s.raw.length (u8V raw2)) := ⟨_, HP1.out, hrow⟩
          have HS2 := Mem.Aside.mk (HS1.out.drew.farRow (k := gr) (Ne.symm hgp) (u8V (splice raw E (sl raw A N)) ++ rr).toArray)
          have HB2 := Mem.Aside.mk (HB1.out.drew.farRow (k := gr) (Ne.symm hgg) (u8V (splice raw E (sl raw A N)) ++ rr).toArray)
          have HM2 := Mem.Aside.mk (HM1.out.drew.keep (setRow_other _ gr mb (u8V (splice raw E (sl raw A N)) ++ rr).toArray (Ne.symm hgm)))
          have HC2 := Mem.Aside.mk (HC1.out.drew.setRow (g := gr) (.inl (mem_foot.2 (.inr (.inr (.inl rfl))))) (u8V (splice raw E (sl raw A N)) ++ rr).toArray)
          have HX2 := Mem.Aside.mk (HX1.out.drew.farRow (k := gr) (Ne.symm hgx) (u8V (splice raw E (sl raw A N)) ++ rr).toArray)
          clear x0 x1 x2 s0 hrow hB4 hsp hRUN hbd hrl' hd hsl hgx hgg hgm hgp
          generalize W1.drew.setRow gr (u8V (splice raw E (sl raw A N)) ++ rr).toArray = W2 at HT HS2 HB2 HM2 HC2 HX2 ⊢
          obtain ⟨raw2, hP2, hR2⟩ := HT.out
          have HP2 := Mem.Aside.mk hP2
          have HR2 := Mem.Aside.mk hR2
          have hgp : g ≠ p := by have := H.out.p_all; intro e; exact this (by rw [e]; rfl)
          have hgm : g ≠ mb := by have := H.out.mb_all; intro e; exact this (by rw [e]; rfl)
          have hgx : xb ≠ g := HXB.out.2.1
          have s1 := HS2.out.cellAt (i := 1) rfl
          have k1 := HB2.out.cellAt (List.getElem?_append_left_some (b := rest) R1.out)
          have kf := HB2.out.frozen (k * 3 + 1)
          have HR3 := Mem.Aside.mk (hR2.farCell (p := ⟨g, k * 3 + 1, none⟩) (by intro e; exact (H.out.raw_all e) rfl) (.int .i64 (E : Int)))
          have HB3 : Mem.Aside (Blk (W2.setCell ⟨g, k * 3 + 1, none⟩ (.int .i64 (E : Int))) g 114 (rowV (packK s.all (k + 1)) ++ rest)) := ⟨by
            rw [show (E : Int) = ((total (s.all.take k) : Nat) : Int) by have := HNA.out.2.2; omega]
            have := HB2.out.set (k * 3 + 1) (.int .i64 ((total (s.all.take k) : Nat) : Int))
            rwa [List.set_append_left _ _ (by rw [rowV_length, packK_length]; omega), ← rowV_packK s.all c] at this⟩
          have HS3 := Mem.Aside.mk (HS2.out.far (p := ⟨g, k * 3 + 1, none⟩) (Ne.symm hgp) (.int .i64 (E : Int)))
          have HM3 := Mem.Aside.mk (HM2.out.farCell (p := ⟨g, k * 3 + 1, none⟩) (Ne.symm hgm) (.int .i64 (E : Int)))
          have HX3 := Mem.Aside.mk (HX2.out.far (p := ⟨g, k * 3 + 1, none⟩) hgx (.int .i64 (E : Int)))
          have HC3 := Mem.Aside.mk (HC2.out.setCell (p := ⟨g, k * 3 + 1, none⟩) (.inl (mem_foot.2 (.inr (.inr (.inr rfl))))) (.int .i64 (E : Int)))
          clear hP2 hR2 hgp hgm hgx
          go_wp2
          clear s1 k1 kf
          generalize W2.setCell ⟨g, k * 3 + 1, none⟩ (.int .i64 (E : Int)) = W3 at HR3 HB3 HS3 HM3 HX3 HC3 ⊢
          have s2 := HS3.out.cellAt (i := 2) rfl
          have x0 := HX3.out.cellAt (i := 0) rfl
          refine region_tail 7 (by kernel_rfl) (by kernel_rfl) ?_
          simp only [List.take_succ_cons, List.take_zero, List.drop_succ_cons, List.drop_zero]
          repeat still_step
          refine wpStill_nil ?_
          obtain ⟨W4, hrun, hM4, hC4⟩ := HM3.out.drew.store Try.underlying52 Try.underlying3 (by omega) (x.id : Int) (E : Int) (I64.wf (by have := HI.out s.all[k] (List.getElem_mem c); rw [← HX.out] at this; exact this)) (WalkArith.wf_i64 ⟨by omega, by omega⟩)
          refine wpList_mapUpdate (by rfl) _ _ _ _ (by rfl) (.map (some mb)) (.int .i64 (x.id : Int)) (.int .i64 (E : Int)) (by rfl) (by rfl) (by rfl) W4 hrun ?_
          have HR4 := Mem.Aside.mk (HR3.out.drew.chg hC4 (by intro k hk hm; simp at hm; subst hm; exact H.out.mb_raw hk))
          have HB4 := Mem.Aside.mk (HB3.out.drew.chg hC4 (by have := H.out.mb_all; intro hm; simp at hm; subst hm; exact this rfl))
          have HS4 := Mem.Aside.mk (HS3.out.drew.chg hC4 (by have := H.out.p_mb; simpa using this))
          have HX4 := Mem.Aside.mk (HX3.out.drew.chg hC4 (by have := HXB.out.2.2.1; simpa using this))
          have HC4 := Mem.Aside.mk (HC3.out.drew.then hC4 (fun y hy => by simp at hy; subst hy; exact .inl (mem_foot.2 (.inr (.inl rfl)))))
          have HM4 : Mem.Aside (IMap Try.prog 3 W4 mb s.all.length (atOf (packK s.all (k + 1)))) := ⟨by
            have h1 := hM4.congr (g := atOf (packK s.all (k + 1))) (fun j _ => by rw [atOf_packK HO.out.lay.ids c, ← HX.out]; split <;> simp_all [HNA.out.2.2])
            have h2 := h1.tight Try.underlying3 (s.all.map fun x => (x.id : Int)) (fun j hj => packK_some hj)
            rwa [List.length_map] at h2⟩
          clear s2 x0 hrun hM4 hC4
          have x2 := HX4.out.cellAt (i := 2) rfl
          have hxl : x.len ≤ 1000000000000 := by
            have h1 := HO.out.lay.inside s.all[k] (List.getElem_mem c)
            have h2 := up_ge s.all[k].len
            rw [HX.out]; omega
          have HU := Mem.Aside.mk (fun (w : World) => up_calls x.len w hxl)
          have hsum : E + up x.len ≤ 1000000000000 := by
            have h3 := HO.out.lay.total_take (k + 1)
            rw [total_take_succ s.all c, ← HX.out] at h3
            have := HNA.out.2.2
            omega
          obtain ⟨U, hU⟩ : ∃ U, U = up x.len := ⟨_, rfl⟩
          rw [← hU] at HU hsum
          have HUU := Mem.Aside.mk hU
          clear hU hxl
          have hw1 := (IntWalk.i64_in ((E : Int) + (U : Int)) (by omega) : IntKind.i64.wrap ((E : Int) + (U : Int)) = ((E + U : Nat) : Int))
          have hw2 := (IntWalk.i64_in ((k : Int) + 1) (by omega) : IntKind.i64.wrap ((k : Int) + 1) = ((k + 1 : Nat) : Int))
          go_wp2_with (go_at_call 61; (with_reducible refine (HU.out _).mono ?_); rintro e w5 ⟨rfl, rfl⟩)
          go_roundw
          case rel =>
            refine ⟨k + 1, raw2, by go_num, ?_, by omega, HP2, HS4, HR4, ⟨?_⟩, HM4, HC4⟩
            · rw [total_take_succ s.all c, ← HX.out, ← HNA.out.2.2, HUU.out]; simp
            · exact Row.mk HB4.out (by rw [rowV_length, packK_length]) HL.out.1 HL.out.2.1 (by have := HL.out.2.2; rw [List.length_append, rowV_length, packK_length] at this ⊢; exact this)
          case measure => simp [intOf]; omega
    · obtain rfl : k = s.all.length := by omega
      have s1 := HS.out.cellAt (i := 1) rfl
      clear h1
      have CS := Mem.Aside.mk (sort_calls (l := packK s.all s.all.length) (by rw [packK_length]; exact HA.out) (by rw [packK_length]; exact hl))
      have hT0 : total s.all ≤ s.raw.length := HO.out.lay.total_le
      rw [List.take_length]
      obtain ⟨T, hT⟩ : ∃ T, T = total s.all := ⟨_, rfl⟩
      have HT : Mem.Aside (T = total (id s.all)) := ⟨hT⟩
      rw [← hT] at hT0
      generalize total s.all = T' at *
      subst hT
      rcases HR.out.cases with ⟨rfl, h2, h3⟩ | ⟨gr, rc, rr, rfl, hbr, hrn, hrc, hrl⟩
      · obtain rfl : T = 0 := by omega
        have hT0' := hT0
        clear hT0
        go_wp2_with (go_at_call 69; (with_reducible refine CS.out.mono ?_); rintro e w2 ⟨l', rfl, hperm, hsrt, hA2, hC2⟩; have HPM := Mem.Aside.mk (And.intro hperm hsrt); have HA2 := Mem.Aside.mk hA2; have HC2 := Mem.Aside.mk hC2; have HS2 := Mem.Aside.mk (HS.out.chg hC2 (by have := H.out.p_all; intro hm; exact this (Option.mem_toList.1 hm))); have t0 := HS2.out.cellAt (i := 0) rfl; have tf := HS2.out.frozen 0; clear hperm hsrt hA2 hC2 s1)
        have hl' : l'.length = s.all.length := by have := HPM.out.1.length_eq; rwa [packK_length] at this
        go_end0
        refine ⟨{ s with raw := raw.take 0, all := l' }, (.slice none 0 0), rfl, ⟨?_, ?_, ?_, ?_⟩, rfl, ?_, raw, HP.out, congrArg (fun n => List.take n raw) HT.out, ?_, ?_, rfl, rfl⟩
        · exact HS2.out.set 0 _
        · have hz : (raw.take 0).length = 0 := by simp
          rw [show (List.take 0 raw).length = 0 by simp]
          exact Row.nil _ _ _
        · exact HA2.out.farCell (p := ⟨p, 0, none⟩) (H.out.p_all) _
        · have h1 := (HM.out.chg HC2.out (by intro hm; exact H.out.mb_all (Option.mem_toList.1 hm))).farCell (p := ⟨p, 0, none⟩) (Ne.symm H.out.p_mb) (.slice none 0 0)
          show IMap _ _ _ _ l'.length (atOf l')
          rw [hl']
          exact h1.congr (fun j _ => atOf_perm (by rw [packK_ids]; exact HO.out.lay.ids) HPM.out.1.symm j)
        · exact (HC.out.then HC2.out (fun y hy => .inl (mem_foot.2 (.inr (.inr (.inr (Option.mem_toList.1 hy))))))).setCell (p := ⟨p, 0, none⟩) (.inl (mem_foot.2 (.inl rfl))) _
        · have := HPM.out.1; rwa [packK_all] at this
        · have hn : (l'.map Ext.id).Nodup := ((HPM.out.1.map Ext.id).nodup_iff).2 (by rw [packK_ids]; exact HO.out.lay.ids)
          have h2 := List.pairwise_map.1 hn
          exact (HPM.out.2.and h2).imp (fun {a b} h => (Ext.lt_total h.2).resolve_right h.1)
      · have hq : T ≤ rc := by omega
        have hq' : (T : Int) ≤ (rc : Int) := by omega
        have hT0' := hT0
        clear hT0
        go_wp2_with (go_at_call 69; (with_reducible refine CS.out.mono ?_); rintro e w2 ⟨l', rfl, hperm, hsrt, hA2, hC2⟩; have HPM := Mem.Aside.mk (And.intro hperm hsrt); have HA2 := Mem.Aside.mk hA2; have HC2 := Mem.Aside.mk hC2; have HS2 := Mem.Aside.mk (HS.out.chg hC2 (by have := H.out.p_all; intro hm; exact this (Option.mem_toList.1 hm))); have t0 := HS2.out.cellAt (i := 0) rfl; have tf := HS2.out.frozen 0; clear hperm hsrt hA2 hC2 s1)
        have hl' : l'.length = s.all.length := by have := HPM.out.1.length_eq; rwa [packK_length] at this
        go_end0
        refine ⟨{ s with raw := raw.take T, all := l' }, (.slice (some ⟨gr, 0, none⟩) T rc), rfl, ⟨?_, ?_, ?_, ?_⟩, rfl, ?_, raw, HP.out, congrArg (fun n => List.take n raw) HT.out, ?_, ?_, rfl, rfl⟩
        · exact HS2.out.set 0 _
        · have hc := HR.out.cut (m := T) hT0'
          have hlen : (raw.take T).length = T := by rw [List.length_take, HP.out.length]; omega
          have e1 : (u8V raw).take (T * 1) = u8V (raw.take T) := by simp [u8V]
          rw [e1] at hc
          show Row _ _ _ _ (raw.take T).length _
          rw [hlen]
          exact (hc.chg HC2.out (fun k hk hm => H.out.raw_all hk (Option.mem_toList.1 hm))).farCell (p := ⟨p, 0, none⟩) (H.out.p_raw) _
        · exact HA2.out.farCell (p := ⟨p, 0, none⟩) (H.out.p_all) _
        · have h1 := (HM.out.chg HC2.out (by intro hm; exact H.out.mb_all (Option.mem_toList.1 hm))).farCell (p := ⟨p, 0, none⟩) (Ne.symm H.out.p_mb) (.slice (some ⟨gr, 0, none⟩) T rc)
          show IMap _ _ _ _ l'.length (atOf l')
          rw [hl']
          exact h1.congr (fun j _ => atOf_perm (by rw [packK_ids]; exact HO.out.lay.ids) HPM.out.1.symm j)
        · exact (HC.out.then HC2.out (fun y hy => .inl (mem_foot.2 (.inr (.inr (.inr (Option.mem_toList.1 hy))))))).setCell (p := ⟨p, 0, none⟩) (.inl (mem_foot.2 (.inl rfl))) _
        · have := HPM.out.1; rwa [packK_all] at this
        · have hn : (l'.map Ext.id).Nodup := ((HPM.out.1.map Ext.id).nodup_iff).2 (by rw [packK_ids]; exact HO.out.lay.ids)
          have h2 := List.pairwise_map.1 hn
          exact (HPM.out.2.and h2).imp (fun {a b} h => (Ext.lt_total h.2).resolve_right h.1)
end Go.Proofs.Ytgimcpnelogadaa.Sto
/- Chapter 5, the store, plain: what Take makes of a store. -/
namespace Go.Proofs.Ytgimcpnelogadaa.Sto
set_option linter.unusedVariables false
set_option linter.unusedSimpArgs false

/-- The Ids with their bytes. -/
def St.pairs (s : St) : List (Nat × List UInt8) := s.all.map fun x => (x.id, s.bytes x)
theorem pairs_ids (s : St) : s.pairs.map Prod.fst = s.all.map Ext.id := by simp [St.pairs, Function.comp_def]

/-- Between the counting and the laying: as s, it may be packed. -/
structure Mid (s : St) (n : Nat) (s2 : St) : Prop where
  lay : Lay s2.all s2.raw.length
  pairs : s2.pairs.Perm s.pairs
  used : s2.used = s.used + up n
  most : s2.most = max s.most s2.used
  span : s2.raw.length ≤ 2 * s2.most + 64
  total : total s2.all = s.used

/-- What Take makes of s: id is the least that is free, its bytes are zeros. -/
structure Took (s : St) (n id : Nat) (s' : St) : Prop where
  ok : Ok s'
  least : ∀ j < id, j ∈ s.all.map Ext.id
  fresh : id ∉ s.all.map Ext.id
  pairs : s'.pairs.Perm ((id, List.replicate n 0) :: s.pairs)
  used : s'.used = s.used + up n
  most : s'.most = max s.most s'.used

theorem Mid.ids {s s2 : St} {n : Nat} (h : Mid s n s2) : (s2.all.map Ext.id).Perm (s.all.map Ext.id) := by
  have := h.pairs.map Prod.fst
  rwa [pairs_ids, pairs_ids] at this
theorem Mid.length {s s2 : St} {n : Nat} (h : Mid s n s2) : s2.all.length = s.all.length := by
  have := h.ids.length_eq
  simpa using this

/-- As s, counted. -/
def St.count (s : St) (n : Nat) : St := { s with used := s.used + up n, most := max s.most (s.used + up n) }
theorem Mid.start {s : St} (ho : Ok s) (n : Nat) : Mid s n (s.count n) where
  lay := ho.lay
  pairs := .refl _
  used := rfl
  most := rfl
  span := by have := ho.span; show s.raw.length ≤ 2 * max s.most (s.used + up n) + 64; omega
  total := ho.used.symm

theorem Mid.packed {s s2 : St} (ho : Ok s) {n : Nat} {raw : List UInt8} (hp : Packing s.all s.raw s.all.length raw) (hr : s2.raw = raw.take (Sto.total s.all)) (ha : s2.all.Perm (packGo 0 s.all)) (hs : s2.all.Pairwise Ext.lt)
    (hu : s2.used = (s.count n).used) (hm : s2.most = (s.count n).most) : Mid s n s2 := by
  have ht := ho.lay.total_le
  have hlen : s2.raw.length = Sto.total s.all := by rw [hr, List.length_take, hp.length]; omega
  refine ⟨?_, ?_, hu, by rw [hm, hu]; rfl, ?_, ?_⟩
  · rw [hlen]; exact ho.lay.packed ha hs
  · refine (ha.map fun x => (x.id, s2.bytes x)).trans ?_
    have e : (packGo 0 s.all).map (fun x => (x.id, s2.bytes x)) = (packGo 0 s.all).map fun x => (x.id, sl raw x.at_ x.len) := by
      refine List.map_congr_left fun x hx => ?_
      have h1 := (packGo_mem_at s.all 0 x hx).2
      have h2 := up_ge x.len
      rw [St.bytes, hr, sl_take (by omega)]
    rw [e, packed_bytes hp]
    exact .refl _
  · rw [hlen, hm, ← ho.used]
    show s.used ≤ 2 * max s.most (s.used + up n) + 64
    omega
  · rw [total_perm ha, packGo_total, ho.used]

theorem total_insertE (y : Ext) (l : List Ext) : total (insertE y l) = up y.len + total l := by rw [total_perm (insertE_perm y l), total_cons]

theorem Mid.took {s s2 : St} {n id : Nat} (h : Mid s n s2) (ho : Ok s) (hle : ∀ j < id, j ∈ s.all.map Ext.id) (hfr : id ∉ s.all.map Ext.id) {raw4 : List UInt8} {k : Nat} (hraw : raw4 = s2.raw ++ List.replicate k 0)
    (hk : gapGo (up n) 0 s2.all + up n ≤ raw4.length) (hk0 : k = 0 ∨ raw4.length = gapGo (up n) 0 s2.all + up n) (hfit : gapGo (up n) 0 s2.all + up n ≤ 2 * s2.most + 64) :
    Took s n id ⟨splice raw4 (gapGo (up n) 0 s2.all) (List.replicate (up n) 0), insertE ⟨id, gapGo (up n) 0 s2.all, n⟩ s2.all, s2.used, s2.most⟩ := by
  have hfree := gap_free (up n) s2.all 0 h.lay.sorted
  have h8 := gap_mod (up n) s2.all 0 rfl h.lay.eights
  obtain ⟨A, hA⟩ : ∃ A, A = gapGo (up n) 0 s2.all := ⟨_, rfl⟩
  rw [← hA] at hk hk0 hfit hfree h8 ⊢
  have hlen : (splice raw4 A (List.replicate (up n) 0)).length = raw4.length := length_splice _ _ _ (by simpa using hk)
  have h2 : s2.raw.length ≤ raw4.length := by rw [hraw]; simp
  have hfr2 : id ∉ s2.all.map Ext.id := fun hm => hfr ((h.ids.mem_iff).1 hm)
  refine ⟨⟨?_, ?_, ?_, ?_⟩, hle, hfr, ?_, h.used, h.most⟩
  · refine Lay.insert (h.lay.wider ?_) hfr2 h8 ?_ hfree
    · show s2.raw.length ≤ (splice raw4 A (List.replicate (up n) 0)).length
      rw [hlen]; exact h2
    · show A + up n ≤ (splice raw4 A (List.replicate (up n) 0)).length
      rw [hlen]; exact hk
  · show s2.used = Sto.total (insertE ⟨id, A, n⟩ s2.all)
    rw [total_insertE, h.total, h.used]; exact Nat.add_comm _ _
  · show s2.used ≤ s2.most
    rw [h.most]; omega
  · show (splice raw4 A (List.replicate (up n) 0)).length ≤ 2 * s2.most + 64
    rw [hlen]
    rcases hk0 with rfl | e
    · rw [hraw]; simpa using h.span
    · omega
  · refine ((insertE_perm _ _).map _).trans ?_
    rw [List.map_cons]
    have e1 : (⟨splice raw4 A (List.replicate (up n) 0), insertE ⟨id, A, n⟩ s2.all, s2.used, s2.most⟩ : St).bytes ⟨id, A, n⟩ = List.replicate n 0 := by
      show sl (splice raw4 A (List.replicate (up n) 0)) A n = _
      have hx := sl_splice_same (r := raw4) (e := A) (b := List.replicate (up n) (0 : UInt8)) (by simpa using hk)
      have hn := up_ge n
      apply List.ext_getElem?
      intro i
      by_cases hi : i < n
      · rw [sl_getElem? _ _ _ _ hi, ← sl_getElem? _ _ _ _ (show i < (List.replicate (up n) (0 : UInt8)).length by simp; omega), hx]
        simp [hi, show i < up n by omega]
      · rw [List.getElem?_eq_none (by simp [sl]; omega), List.getElem?_eq_none (by simp; omega)]
    have e2 : (s2.all.map fun x => (x.id, (⟨splice raw4 A (List.replicate (up n) 0), insertE ⟨id, A, n⟩ s2.all, s2.used, s2.most⟩ : St).bytes x)) = s2.pairs := by
      refine List.map_congr_left fun x hx => ?_
      have h1 := h.lay.inside x hx
      have hu := up_ge x.len
      show (x.id, sl (splice raw4 A (List.replicate (up n) 0)) x.at_ x.len) = (x.id, sl s2.raw x.at_ x.len)
      by_cases h0 : x.len = 0
      · rw [h0]; simp [sl]
      · rw [sl_splice_far (by simpa using hk) (by have := hfree x hx; rw [List.length_replicate]; omega), hraw, sl_append (by omega)]
    rw [e1, e2]
    exact .cons _ h.pairs
end Go.Proofs.Ytgimcpnelogadaa.Sto
/- Chapter 5, the store, by hand: Take. -/
namespace Go.Proofs.Ytgimcpnelogadaa.Sto
open Go.RowKit Go.Proofs.Ytgimcpnelogadaa.Mem
set_option linter.unusedVariables false
set_option linter.unusedSimpArgs false

theorem take_neg (w : World) (p : Nat) (n : Int) (hn : n < 0) (hi : I64 n) :
    Calls Try.prog 22 #[.pointer (some ⟨p, 0, none⟩), .int .i64 n] w fun e w' => e = .returned (.tuple #[.int .i64 0, .int .i64 13]) ∧ w = w' := by
  obtain ⟨h1, h2⟩ := hi
  go_enter Try.func22, Try.ntmps22
  go_wp2
  go_ret2
  exact ⟨rfl, rfl⟩
theorem take_long (w : World) (p : Nat) (n : Int) (hn : 8388608 < n) (hi : I64 n) :
    Calls Try.prog 22 #[.pointer (some ⟨p, 0, none⟩), .int .i64 n] w fun e w' => e = .returned (.tuple #[.int .i64 0, .int .i64 2]) ∧ w = w' := by
  obtain ⟨h1, h2⟩ := hi
  have h3 : ¬ n < 0 := by omega
  go_enter Try.func22, Try.ntmps22
  go_wp2
  go_ret2
  exact ⟨rfl, rfl⟩

/-- The count of Ids that are taken bounds the least that is free. -/
theorem least_le {l : List Nat} {k : Nat} (h : ∀ j < k, j ∈ l) : k ≤ l.length := by
  have := nodup_le (List.range k) l List.nodup_range (fun x hx => h x (List.mem_range.1 hx))
  simpa using this
/-- A Boolean as a number. -/
def b2n : Value → Nat
  | .bool true => 1
  | _ => 0
theorem atOf_isSome_iff {l : List Ext} {k : Nat} : (atOf l (k : Int)).isSome = decide (k ∈ l.map Ext.id) := by
  rw [Bool.eq_iff_iff, decide_eq_true_iff]
  constructor
  · intro h
    obtain ⟨x, hx, e⟩ := atOf_isSome h
    exact List.mem_map.2 ⟨x, hx, by omega⟩
  · intro h
    obtain ⟨x, hx, rfl⟩ := List.mem_map.1 h
    cases c : atOf l (x.id : Int) with
    | some _ => rfl
    | none =>
      unfold atOf at c
      rw [Option.map_eq_none_iff, List.find?_eq_none] at c
      exact absurd (c x hx) (by simp)

theorem elemU8 : Elem Try.prog 5 1 1 (.int .u8 0) := Elem.of (by kernel_rfl) rfl (by intro v hv; simp [Value.cells] at hv; subst hv; rfl) (by decide)
theorem zeroU8 (w : World) : (zeroValue 5).run Try.prog w = .ok (.int .u8 0) w := by kernel_rfl
theorem zerosU8 (k : Nat) : (Builtin.zeroCells (Value.int .u8 0).cells k).toList = u8V (List.replicate k 0) := by
  have e : ∀ i : Nat, (#[Value.int .u8 0] : Array Value)[i % 1]! = .int .u8 0 := fun i => by rw [Nat.mod_one]; rfl
  apply List.ext_getElem
  · simp [Builtin.zeroCells, Value.cells, u8V]
  · intro i h1 h2
    simp only [Builtin.zeroCells, Value.cells, Array.toList_map, List.getElem_map, Array.getElem_toList, Array.getElem_range, u8V, List.getElem_replicate]
    exact e _

set_option maxHeartbeats 8000000 in
set_option maxRecDepth 100000 in
theorem take_ok {w : World} {p mb : Nat} {s : St} {rawv allv : Value} (h : StoAt w p s rawv allv mb) (ho : Ok s) (hl : s.all.length ≤ 100000000) (hr : s.most ≤ 100000000000) (hI : ∀ x ∈ s.all, I64 (x.id : Int)) (n : Nat) (hn : n ≤ 8388608) :
    Calls Try.prog 22 #[.pointer (some ⟨p, 0, none⟩), .int .i64 (n : Int)] w fun e w' => ∃ (id : Nat) (s' : St) (F' : List Nat), e = .returned (.tuple #[.int .i64 (id : Int), .int .i64 0]) ∧ Sto w' p s' F' ∧ Took s n id s' ∧
      Chg (foot p rawv allv mb) w w' ∧ ∀ k ∈ F', k ∈ foot p rawv allv mb ∨ w.heap.size ≤ k := by
  have H := Mem.Aside.mk h
  have HO := Mem.Aside.mk ho
  have HI := Mem.Aside.mk hI
  have HLK := Mem.Aside.mk (fun k hk => h.by_.look Try.underlying52 Try.underlying3 (zeroInt w) k hk)
  have h2 := h.c2
  have n0 : ¬ (n : Int) < 0 := by omega
  have n1 : ¬ (8388608 : Int) < (n : Int) := by omega
  clear h ho hI
  go_enter Try.func22, Try.ntmps22
  go_wp2
  go_loopw [6, 7] (fun i b wr => ∃ (k : Nat) (c : Bool), i = .int .i64 (k : Int) ∧ b = .bool c ∧ k ≤ s.all.length ∧ Mem.Aside (∀ j < k, j ∈ s.all.map Ext.id) ∧ Mem.Aside (c = false → k ∉ s.all.map Ext.id) ∧ w = wr)
    (fun i b _ => 2 * (s.all.length - (intOf i).toNat) + b2n b)
  case atStart => exact ⟨0, true, rfl, rfl, Nat.zero_le _, ⟨by simp⟩, ⟨by simp⟩, rfl⟩
  case round =>
    obtain ⟨k, c, rfl, rfl, hk, HLT, HF, rfl⟩ := hrel
    cases c
    · have hfr := HF.out rfl
      have HFR := Mem.Aside.mk hfr
      have hup := up_le n
      have HU := Mem.Aside.mk (fun (w : World) => up_calls n w (by omega))
      obtain ⟨U, hU⟩ : ∃ U, U = up n := ⟨_, rfl⟩
      rw [← hU] at HU hup
      have HUU := Mem.Aside.mk hU
      have hmo := HO.out.most
      have hsp := HO.out.span
      have c3 := H.out.c3
      have f3 := H.out.cells.frozen 3
      have hw1 := (IntWalk.i64_in ((s.used : Int) + (U : Int)) (by omega) : IntKind.i64.wrap ((s.used : Int) + (U : Int)) = ((s.used + U : Nat) : Int))
      clear hfr hU h2
      go_wp2_with (go_at_call 61; (with_reducible refine (HU.out _).mono ?_); rintro e w5 ⟨rfl, rfl⟩)
      have HS1 := Mem.Aside.mk (H.out.cells.set 3 (.int .i64 ((s.used : Int) + (U : Int))))
      have HR1 := Mem.Aside.mk (H.out.raw.farCell (p := ⟨p, 3, none⟩) H.out.p_raw (.int .i64 ((s.used : Int) + (U : Int))))
      have HA1 := Mem.Aside.mk (H.out.all.farCell (p := ⟨p, 3, none⟩) H.out.p_all (.int .i64 ((s.used : Int) + (U : Int))))
      have HM1 := Mem.Aside.mk (H.out.by_.farCell (p := ⟨p, 3, none⟩) (Ne.symm H.out.p_mb) (.int .i64 ((s.used : Int) + (U : Int))))
      have HC1 : Mem.Aside (Chg (foot p rawv allv mb) w (w.setCell ⟨p, 3, none⟩ (.int .i64 ((s.used : Int) + (U : Int))))) := ⟨(Chg.refl _ _).setCell (p := ⟨p, 3, none⟩) (.inl (mem_foot.2 (.inl rfl))) _⟩
      clear c3 f3
      have HB3 : Mem.Aside ((stV rawv allv (.map (some mb)) s.used s.most).set 3 (.int .i64 ((s.used : Int) + (U : Int))) = stV rawv allv (.map (some mb)) (s.used + U) s.most) := ⟨by simp [stV]⟩
      rw [HB3.out] at HS1
      generalize w.setCell ⟨p, 3, none⟩ (.int .i64 ((s.used : Int) + (U : Int))) = W1 at HS1 HR1 HA1 HM1 HC1 ⊢
      have c3 : W1.cell? ⟨p, 3, none⟩ = some (.int .i64 ((s.used : Int) + (U : Int))) := (HS1.out.cellAt rfl).trans (by simp)
      have c4 := HS1.out.cellAt (i := 4) rfl
      have f4 := HS1.out.frozen 4
      obtain ⟨M, hM⟩ : ∃ M, M = max s.most (s.used + U) := ⟨_, rfl⟩
      have hM2 : M ≤ 110000000000 := by omega
      have HMM := Mem.Aside.mk hM
      have hmx : max (s.most : Int) ((s.used : Int) + (U : Int)) = (M : Int) := by omega
      have H2 : Mem.Aside (StoAt ((W1.setCell ⟨p, 4, none⟩ (.int .i64 (M : Int))).drew) p (s.count n) rawv allv mb) := ⟨by
        have h4 := (HS1.out.set 4 (.int .i64 (M : Int))).drew
        refine ⟨?_, (HR1.out.farCell (p := ⟨p, 4, none⟩) H.out.p_raw _).drew, (HA1.out.farCell (p := ⟨p, 4, none⟩) H.out.p_all _).drew, (HM1.out.farCell (p := ⟨p, 4, none⟩) (Ne.symm H.out.p_mb) _).drew⟩
        have e : stV rawv allv (.map (some mb)) (s.count n).used (s.count n).most = (stV rawv allv (.map (some mb)) (s.used + U) s.most).set 4 (.int .i64 (M : Int)) := by
          rw [hM, HUU.out]; simp [stV, St.count]
        rw [e]; exact h4⟩
      have HC2 : Mem.Aside (Chg (foot p rawv allv mb) w ((W1.setCell ⟨p, 4, none⟩ (.int .i64 (M : Int))).drew)) := ⟨(HC1.out.setCell (p := ⟨p, 4, none⟩) (.inl (mem_foot.2 (.inl rfl))) _).drew⟩
      clear hM
      refine region_tail 12 (by kernel_rfl) (by kernel_rfl) ?_
      simp only [List.take_succ_cons, List.take_zero, List.drop_succ_cons, List.drop_zero]
      repeat still_step
      try rw [hmx]
      refine wpStill_nil ?_
      have hraw : s.raw.length ≤ 1000000000000 := by omega
      have CG := Mem.Aside.mk (gap_calls ⟨_, _, _, H2.out, rfl⟩ ⟨HO.out.lay⟩ (by show s.all.length ≤ _; omega) (by show s.raw.length ≤ _; omega) U (by omega))
      have hA0 : gapGo U 0 (s.count n).all ≤ s.raw.length := gap_in HO.out.lay
      obtain ⟨A, hA⟩ : ∃ A, A = gapGo U 0 (s.count n).all := ⟨_, rfl⟩
      rw [← hA] at CG hA0
      have HA := Mem.Aside.mk hA
      have hwA := (IntWalk.i64_in ((A : Int) + (U : Int)) (by omega) : IntKind.i64.wrap ((A : Int) + (U : Int)) = ((A + U : Nat) : Int))
      have hw2 := (IntWalk.i64_in (2 * (M : Int)) (by omega) : IntKind.i64.wrap (2 * (M : Int)) = ((2 * M : Nat) : Int))
      have hw3 := (IntWalk.i64_in (2 * (M : Int) + 64) (by omega) : IntKind.i64.wrap (2 * (M : Int) + 64) = ((2 * M + 64 : Nat) : Int))
      clear hA hmx
      go_upto_if 67 with (go_at_call 62; (with_reducible refine CG.out.mono ?_); rintro e w3 ⟨rfl, hc3⟩; have H3 := Mem.Aside.mk (H2.out.chg hc3 (by simp)); have HC3 := Mem.Aside.mk (HC2.out.then hc3 (by simp)); have t4 : w3.cell? ⟨p, 4, none⟩ = some (.int .i64 (M : Int)) := by { have := H3.out.c4; rw [HMM.out, HUU.out]; exact this }; clear hc3 c3 c4 f4)
      go_cut [9] (fun s9 wx => ∃ (A2 : Nat) (s2 : St) (rawv2 : Value), s9 = .int .i64 (A2 : Int) ∧ A2 + U ≤ 2 * M + 64 ∧ Mem.Aside (Mid s n s2) ∧ Mem.Aside (A2 = gapGo (up n) 0 s2.all) ∧ Mem.Aside (StoAt wx p s2 rawv2 allv mb) ∧ Mem.Aside (rawv2.ownBlock = rawv.ownBlock) ∧ Mem.Aside (Chg (foot p rawv allv mb) w wx))
      case first =>
        by_cases c : A + U ≤ 2 * M + 64
        · have c' : ¬ (2 * (M : Int) + 64 < (A : Int) + (U : Int)) := by omega
          go_wp2
          go_meet
          case rel => exact ⟨A, s.count n, rawv, rfl, c, ⟨Mid.start HO.out n⟩, ⟨by rw [← HUU.out]; exact HA.out⟩, H3, ⟨rfl⟩, HC3⟩
        · have c' : (2 * (M : Int) + 64 < (A : Int) + (U : Int)) := by omega
          have CP := Mem.Aside.mk (pack_calls H3.out ⟨HO.out.lay⟩ (by show s.all.length ≤ _; omega) (by show s.raw.length ≤ _; omega) HI.out)
          go_wp2_with (first
            | (go_at_call 27; (with_reducible refine CP.out.mono ?_); rintro e w4 ⟨s2, rawv2, rfl, H4', ho4, hc4, raw, hpk, hr2, ha2, hs2, hu2, hm2⟩; have H4 := Mem.Aside.mk H4'; have HC4 := Mem.Aside.mk (HC3.out.trans hc4); have HOW := Mem.Aside.mk ho4; have HMID := Mem.Aside.mk (Mid.packed HO.out hpk hr2 ha2 hs2 hu2 hm2); have HRL : Mem.Aside (s2.raw.length ≤ s.used) := ⟨by { rw [hr2, List.length_take, HO.out.used]; exact Nat.min_le_left _ _ }⟩; have hlen2 := HMID.out.length; have hlr2 : s2.raw.length ≤ 1000000000000 := by { have h1 := HMID.out.span; have h2 := HMID.out.most; have h3 := HMID.out.used; have h4 := HUU.out; omega }; have CG2 := Mem.Aside.mk (gap_calls ⟨_, _, _, H4.out, rfl⟩ ⟨HMID.out.lay⟩ (by omega) hlr2 U (by omega)); clear hlen2 hlr2 hc4 ho4 H4' hpk hr2 ha2 hs2 hu2 hm2)
            | (go_at_call 62; (with_reducible refine CG2.out.mono ?_); rintro e w5 ⟨rfl, hc5⟩; have H5 := Mem.Aside.mk (H4.out.chg hc5 (by simp)); have HC5 := Mem.Aside.mk (HC4.out.then hc5 (by simp)); clear hc5))
          go_meet
          case rel => exact ⟨gapGo U 0 s2.all, s2, rawv2, rfl, by
            have h1 := gap_in (need := U) HMID.out.lay
            have h2 := HRL.out
            have h3 := HMM.out
            omega, HMID, ⟨by rw [HUU.out]⟩, H5, HOW, HC5⟩
      case rest =>
        obtain ⟨A2, s2, rawv2, rfl, hfit, HMID, HA2, H4, HOW, HC4⟩ := hcut
        clear H2 HC2 CG HA hwA hw2 hw3 H3 HC3 t4 hA0
        obtain ⟨ar, cr, hrv⟩ := Row_form H4.out.raw
        have HRV := Mem.Aside.mk hrv
        have hA0 : A2 ≤ s2.raw.length := by rw [HA2.out]; exact gap_in HMID.out.lay
        have hRL : s2.raw.length ≤ 2 * M + 64 := by
          have h1 := HMID.out.span; have h2 := HMID.out.most; have h3 := HMID.out.used; have h4 := HUU.out; have h5 := HMM.out; omega
        obtain ⟨R, hR⟩ : ∃ R, R = s2.raw.length := ⟨_, rfl⟩
        rw [← hR] at hA0 hRL hrv
        have HRR := Mem.Aside.mk hR
        have t0 : wc.cell? ⟨p, 0, none⟩ = some (.slice ar R cr) := by rw [← hrv]; exact H4.out.c0
        have hwA := (IntWalk.i64_in ((A2 : Int) + (U : Int)) (by omega) : IntKind.i64.wrap ((A2 : Int) + (U : Int)) = ((A2 + U : Nat) : Int))
        have hwR := (IntWalk.i64_in ((A2 : Int) + (U : Int) - (R : Int)) (by omega) : IntKind.i64.wrap ((A2 : Int) + (U : Int) - (R : Int)) = (A2 : Int) + (U : Int) - (R : Int))
        clear hR hrv
        go_upto_if 83 with fail
        go_cut [] (fun wx => ∃ (k : Nat) (raw4 : List UInt8) (rawv4 : Value), Mem.Aside (raw4 = s2.raw ++ List.replicate k 0) ∧ A2 + U ≤ raw4.length ∧ (raw4.length ≤ 2 * M + 64) ∧ Mem.Aside (k = 0 ∨ raw4.length = A2 + U) ∧ Mem.Aside (StoAt wx p { s2 with raw := raw4 } rawv4 allv mb) ∧
          Mem.Aside (Chg (foot p rawv allv mb) w wx) ∧ Mem.Aside (∀ g, rawv4.ownBlock = some g → rawv.ownBlock = some g ∨ w.heap.size ≤ g))
        case first =>
          by_cases c : A2 + U ≤ R
          · have c' : (A2 : Int) + (U : Int) - (R : Int) ≤ 0 := by omega
            go_wp2
            go_meet
            case rel => exact ⟨0, s2.raw, rawv2, ⟨by simp⟩, by have := HRR.out; omega, by have := HRR.out; omega, ⟨.inl rfl⟩, H4, HC4, ⟨fun g hg => .inl (by rw [← HOW.out]; exact hg)⟩⟩
          · have c' : 0 < (A2 : Int) + (U : Int) - (R : Int) := by omega
            have hk : ((A2 + U - R : Nat) : Int) = (A2 : Int) + (U : Int) - (R : Int) := by omega
            obtain ⟨v', w', hr', hR', hC', hO'⟩ := H4.out.raw.appendZeros (kq := .i64) (kn := .i64) Try.underlying57 Try.underlying3 elemU8 (k := A2 + U - R) (by omega) (by rw [← HRR.out]; omega) (by rw [← HRR.out]; omega)
            rw [hk, HRV.out, ← HRR.out] at hr'
            rw [zerosU8, ← HRR.out, show R + (A2 + U - R) = A2 + U by omega] at hR'
            obtain ⟨a3, cp3, rfl⟩ := Row_form hR'
            have HRUN := Mem.Aside.mk hr'
            have HR' := Mem.Aside.mk hR'
            have HO' := Mem.Aside.mk hO'
            have hpn : p ∉ rawv2.ownBlock.toList := fun hm => H4.out.p_raw (Option.mem_toList.1 hm)
            have hmn : mb ∉ rawv2.ownBlock.toList := fun hm => H4.out.mb_raw (Option.mem_toList.1 hm)
            have HS' := Mem.Aside.mk (H4.out.cells.chg hC' hpn)
            have HAl' := Mem.Aside.mk (H4.out.all.chg hC' (fun g hg hm => H4.out.raw_all (Option.mem_toList.1 hm) hg))
            have HMb' := Mem.Aside.mk (H4.out.by_.chg hC' hmn)
            have HC' := Mem.Aside.mk (HC4.out.then hC' (fun g hg => .inl (mem_foot.2 (.inr (.inr (.inl (by rw [← HOW.out]; exact Option.mem_toList.1 hg)))))))
            have f0 := HS'.out.frozen 0
            have t0' := HS'.out.cellAt (i := 0) rfl
            clear hk hr' hR' hO' hC' hpn hmn
            go_wp2_with (refine wpList_builtin2 _ (by rfl) .append _ _ _ (by rfl) (.slice ar R cr) (.int .i64 ((A2 : Int) + (U : Int) - (R : Int))) (by rfl) (by rfl) _ _ (HRUN.out _) ?_)
            go_meet
            case rel =>
              have hln : (s2.raw ++ List.replicate (A2 + U - R) (0 : UInt8)).length = A2 + U := by rw [List.length_append, List.length_replicate, ← HRR.out]; omega
              refine ⟨A2 + U - R, _, .slice a3 (A2 + U) cp3, ⟨rfl⟩, by omega, by omega, ⟨.inr hln⟩, ⟨?_, ?_, ?_, ?_⟩, ⟨HC'.out.setCell (p := ⟨p, 0, none⟩) (.inl (mem_foot.2 (.inl rfl))) _⟩, ⟨?_⟩⟩
              · exact HS'.out.set 0 _
              · have hvp : (Value.slice a3 (A2 + U) cp3).ownBlock ≠ some p := by
                  rcases HO'.out with ⟨_, e⟩ | ⟨e, _⟩
                  · rw [e]; exact H4.out.p_raw
                  · rw [e]; intro e2
                    have h1 := H4.out.cells.lt
                    have h2 := Option.some.inj e2
                    omega
                have h5 := HR'.out.farCell (p := ⟨p, 0, none⟩) hvp (Value.slice a3 (A2 + U) cp3)
                show Row _ _ 1 _ (s2.raw ++ List.replicate (A2 + U - R) (0 : UInt8)).length (u8V (s2.raw ++ List.replicate (A2 + U - R) (0 : UInt8)))
                rw [hln, show u8V (s2.raw ++ List.replicate (A2 + U - R) (0 : UInt8)) = u8V s2.raw ++ u8V (List.replicate (A2 + U - R) 0) by simp [u8V]]
                exact h5
              · exact HAl'.out.farCell (p := ⟨p, 0, none⟩) H4.out.p_all _
              · exact HMb'.out.farCell (p := ⟨p, 0, none⟩) (Ne.symm H4.out.p_mb) _
              · intro g hg
                rcases HO'.out with ⟨_, e⟩ | ⟨e, _⟩
                · exact .inl (by rw [← HOW.out, ← e]; exact hg)
                · have := HC4.out.size
                  have h2 := Option.some.inj (e.symm.trans hg)
                  exact .inr (by omega)
        case rest =>
          obtain ⟨k4, raw4, rawv4, HRAW, hle, hle2, HK, H5, HC5, HOW5⟩ := hcut
          clear H4 HC4 HOW hwR HRV
          obtain ⟨s4, hs4⟩ : ∃ s4 : St, s4 = ⟨raw4, s2.all, s2.used, s2.most⟩ := ⟨_, rfl⟩
          have t0 := H5.out.c0
          have HAA := Mem.Aside.mk (And.intro hA0 hRL)
          clear hA0 hRL hs4
          go_upto_region 21 with fail
          go_cut [] (fun wx => Mem.Aside (StoAt wx p ⟨splice raw4 A2 (List.replicate U 0), s2.all, s2.used, s2.most⟩ rawv4 allv mb) ∧ Mem.Aside (Chg (foot p rawv4 allv mb) wc wx))
          case first =>
            rcases H5.out.raw.cases with ⟨rfl, h2, h3⟩ | ⟨gr, rc, rr, rfl, hbr, hrn, hrc, hrl⟩
            · obtain rfl : U = 0 := by simp at h2; subst h2; simp at hle; omega
              obtain rfl : A2 = 0 := by simp at h2; subst h2; simp at hle; omega
              clear h2 h3
              go_wp2_with (refine wpList_builtin1 _ (by rfl) .clear _ _ (by rfl) (.slice none 0 0) (by rfl) _ _ (run_clear_zero _ Try.underlying57) ?_)
              go_meet
              case rel => exact ⟨⟨by rw [show List.replicate 0 (0 : UInt8) = [] from rfl, splice_nil]; exact H5.out⟩, ⟨Chg.refl _ _⟩⟩
            · have hrn' : raw4.length ≤ rc := hrn
              have HB := Mem.Aside.mk hbr
              have HRC := Mem.Aside.mk (And.intro hrn' (And.intro hrc hrl))
              have q1 : A2 + U ≤ rc := by omega
              have q2 : A2 ≤ rc := by omega
              have q3 : (A2 : Int) + (U : Int) ≤ (rc : Int) := by omega
              have q4 : (0 : Int) ≤ (A2 : Int) + (U : Int) := by omega
              have q5 : ((A2 : Int) + (U : Int)).toNat = A2 + U := by omega
              have q6 : A2 ≤ A2 + U := by omega
              clear hbr hrn hrc hrl hrn'
              by_cases h0 : U = 0
              · subst h0
                go_wp2_with (refine wpList_builtin1 _ (by rfl) .clear _ _ (by rfl) (.slice _ 0 (rc - A2)) (by rfl) _ _ (run_clear_zero _ Try.underlying57) ?_)
                all_goals go_meet
                all_goals exact ⟨⟨by rw [show List.replicate 0 (0 : UInt8) = [] from rfl, splice_nil]; exact H5.out⟩, ⟨Chg.refl _ _⟩⟩
              · have q7 : ¬ rc = A2 := by omega
                have HF : Mem.Aside (A2 + U * (Value.int .u8 0).cells.size ≤ (u8V raw4 ++ rr).length) := ⟨by rw [List.length_append, u8V_length, show (Value.int .u8 0).cells.size = 1 from rfl]; omega⟩
                go_wp2_with (refine wpList_builtin1 _ (by rfl) .clear _ _ (by rfl) (.slice (some ⟨gr, A2, none⟩) U (rc - A2)) (by rfl) _ _ (run_clear_blk _ Try.underlying57 zeroU8 (by intro v hv; simp [Value.cells] at hv; subst hv; rfl) HB.out HF.out) ?_)
                go_meet
                case rel =>
                  have hsp : splice (u8V raw4 ++ rr) A2 (Builtin.zeroCells (Value.int .u8 0).cells U).toList = u8V (splice raw4 A2 (List.replicate U 0)) ++ rr := by rw [zerosU8, splice_front _ _ _ _ (by rw [u8V_length, u8V_length, List.length_replicate]; omega), u8V_splice]
                  rw [show (Value.int .u8 0).cells = #[Value.int .u8 0] from rfl] at hsp
                  rw [hsp]
                  have hB4 := HB.out.setRow (splice (u8V raw4 ++ rr) A2 (Builtin.zeroCells #[Value.int .u8 0] U).toList)
                  rw [hsp] at hB4
                  have hgp : gr ≠ p := by have := H5.out.p_raw; intro e; exact this (by rw [e]; rfl)
                  have hgm : gr ≠ mb := by have := H5.out.mb_raw; intro e; exact this (by rw [e]; rfl)
                  have hlen : (splice raw4 A2 (List.replicate U (0 : UInt8))).length = raw4.length := length_splice _ _ _ (by rw [List.length_replicate]; omega)
                  refine ⟨⟨H5.out.cells.farRow (k := gr) (Ne.symm hgp) _, ?_, H5.out.all.keep (fun g hg => setRow_other _ gr g _ (fun e => H5.out.raw_all (show (Value.slice (some ⟨gr, 0, none⟩) raw4.length rc).ownBlock = some gr from rfl) (by rw [hg, e]))), H5.out.by_.keep (setRow_other _ gr mb _ (Ne.symm hgm))⟩, ⟨(Chg.refl _ _).setRow (g := gr) (.inl (mem_foot.2 (.inr (.inr (.inl rfl))))) _⟩⟩
                  show Row _ _ 1 _ (splice raw4 A2 (List.replicate U (0 : UInt8))).length (u8V (splice raw4 A2 (List.replicate U 0)))
                  rw [hlen]
                  refine Row.mk hB4 (by rw [u8V_length, hlen]; omega) HRC.out.1 HRC.out.2.1 ?_
                  have := HRC.out.2.2
                  rw [List.length_append, u8V_length] at this ⊢
                  rw [hlen]; exact this
          case rest =>
            obtain ⟨H6, HC6⟩ := hcut
            have hkw : I64 (k : Int) := ⟨by omega, by omega⟩
            have hlen2 := HMID.out.length
            obtain ⟨W7, hrun, hM7, hC7⟩ := H6.out.by_.store Try.underlying52 Try.underlying3 (by show s2.all.length < _; omega) (k : Int) (A2 : Int) hkw.wf (WalkArith.wf_i64 ⟨by omega, by omega⟩)
            have HRUN := Mem.Aside.mk hrun
            have t2 := H6.out.c2
            have hpm : p ∉ [mb] := by have := H6.out.p_mb; simpa using this
            have HS8 := Mem.Aside.mk ((H6.out.cells.chg hC7 hpm).alloc (.cells #[.int .i64 (k : Int), .int .i64 (A2 : Int), .int .i64 (n : Int)] 114))
            have HR8 := Mem.Aside.mk ((H6.out.raw.chg hC7 (fun g hg hm => H6.out.mb_raw (by rw [hg]; simp at hm; rw [hm]))).alloc (.cells #[.int .i64 (k : Int), .int .i64 (A2 : Int), .int .i64 (n : Int)] 114))
            have HA8 := Mem.Aside.mk ((H6.out.all.chg hC7 (fun g hg hm => H6.out.mb_all (by rw [hg]; simp at hm; rw [hm]))).alloc (.cells #[.int .i64 (k : Int), .int .i64 (A2 : Int), .int .i64 (n : Int)] 114))
            have HM8 := Mem.Aside.mk (hM7.alloc (.cells #[.int .i64 (k : Int), .int .i64 (A2 : Int), .int .i64 (n : Int)] 114))
            have HX8 : Mem.Aside (Blk (W7.alloc (.cells #[.int .i64 (k : Int), .int .i64 (A2 : Int), .int .i64 (n : Int)] 114)) W7.heap.size 114 (extV ⟨k, A2, n⟩)) := ⟨Blk.newL (extV ⟨k, A2, n⟩) rfl⟩
            have HC8 : Mem.Aside (Chg (foot p rawv allv mb) w (W7.alloc (.cells #[.int .i64 (k : Int), .int .i64 (A2 : Int), .int .i64 (n : Int)] 114))) := ⟨((HC5.out.then HC6.out (fun y hy => by
              rcases mem_foot.1 hy with e | e | e | e
              · exact .inl (mem_foot.2 (.inl e))
              · exact .inl (mem_foot.2 (.inr (.inl e)))
              · rcases HOW5.out y e with e' | e'
                · exact .inl (mem_foot.2 (.inr (.inr (.inl e'))))
                · exact .inr e'
              · exact .inl (mem_foot.2 (.inr (.inr (.inr e)))))).then hC7 (fun y hy => by simp at hy; subst hy; exact .inl (mem_foot.2 (.inr (.inl rfl))))).alloc _⟩
            have HALL := Mem.Aside.mk H6.out.p_all
            have HAM := Mem.Aside.mk H6.out.mb_all
            have HAR := Mem.Aside.mk (fun g (hg : rawv4.ownBlock = some g) => H6.out.raw_all hg)
            have HAP := Mem.Aside.mk H6.out.p_raw
            have HPM := Mem.Aside.mk H6.out.p_mb
            have HXB : Mem.Aside (W7.heap.size ≠ p ∧ allv.ownBlock ≠ some W7.heap.size) := ⟨Nat.ne_of_gt (H6.out.cells.chg hC7 hpm).lt, fun e => Nat.lt_irrefl _ ((H6.out.all.chg hC7 (fun g hg hm => H6.out.mb_all (by rw [hg]; simp at hm; rw [hm]))).lt e)⟩
            clear hrun hM7 hC7 hpm hlen2 t0
            go_wp2_with (refine wpList_mapUpdate (by rfl) _ _ _ _ (by rfl) (.map (some mb)) (.int .i64 (k : Int)) (.int .i64 (A2 : Int)) (by rfl) (by rfl) (by rfl) W7 HRUN.out ?_)
            obtain ⟨xb, hxb⟩ : ∃ xb, xb = W7.heap.size := ⟨_, rfl⟩
            rw [← hxb] at HX8 HXB ⊢
            generalize W7.alloc (.cells #[.int .i64 (k : Int), .int .i64 (A2 : Int), .int .i64 (n : Int)] 114) = W8 at HS8 HR8 HA8 HM8 HX8 HC8 ⊢
            clear hxb t2 HRUN
            have s1 := HS8.out.drew.cellAt (i := 1) rfl
            have x0 : W8.drew.cell? ⟨xb, 0, none⟩ = some (.int .i64 (k : Int)) := HX8.out.drew.cellAt rfl
            have x1 : W8.drew.cell? ⟨xb, 1, none⟩ = some (.int .i64 (A2 : Int)) := HX8.out.drew.cellAt rfl
            have x2 : W8.drew.cell? ⟨xb, 2, none⟩ = some (.int .i64 (n : Int)) := HX8.out.drew.cellAt rfl
            have CB := Mem.Aside.mk (bsearch_calls HA8.out.drew HMID.out.lay.sorted (by rw [HMID.out.length]; omega) ⟨k, A2, n⟩)
            obtain ⟨I, hI0⟩ : ∃ I, I = place ⟨k, A2, n⟩ s2.all := ⟨_, rfl⟩
            rw [← hI0] at CB
            have HI0 := Mem.Aside.mk hI0
            clear hI0
            go_region_held3 (fun w' => w'.cell? ⟨p, 1, none⟩ = some allv ∧ w'.cell? ⟨xb, 0, none⟩ = some (.int .i64 (k : Int)) ∧ w'.cell? ⟨xb, 1, none⟩ = some (.int .i64 (A2 : Int)) ∧ w'.cell? ⟨xb, 2, none⟩ = some (.int .i64 (n : Int)))
              (first | exact ⟨s1, x0, x1, x2⟩ | exact ⟨cell_chg hc9 s1 (by simp), cell_chg hc9 x0 (by simp), cell_chg hc9 x1 (by simp), cell_chg hc9 x2 (by simp)⟩)
              ((go_at_call 63; (with_reducible refine CB.out.mono ?_); rintro e w9 ⟨rfl, hc9⟩))
            have HC9 := Mem.Aside.mk hc9
            clear hc9 s1 x0 x1 x2
            go_wp2
            have HS9 := Mem.Aside.mk (HS8.out.drew.chg HC9.out (by simp))
            have HR9 := Mem.Aside.mk (HR8.out.drew.chg HC9.out (by simp))
            have HA9 := Mem.Aside.mk (HA8.out.drew.chg HC9.out (by simp))
            have HM9 := Mem.Aside.mk (HM8.out.drew.chg HC9.out (by simp))
            have HX9 := Mem.Aside.mk (HX8.out.drew.chg HC9.out (by simp))
            have HC10 : Mem.Aside (Chg (foot p rawv allv mb) w w9) := ⟨HC8.out.drew.then HC9.out (by simp)⟩
            have hle9 : I ≤ s2.all.length := by rw [HI0.out]; exact place_le _ _
            have HS10 := Mem.Aside.mk ((HS9.out.alloc (.cells #[.int .i64 (k : Int), .int .i64 (A2 : Int), .int .i64 (n : Int)] 114)).drew)
            have HR10 := Mem.Aside.mk ((HR9.out.alloc (.cells #[.int .i64 (k : Int), .int .i64 (A2 : Int), .int .i64 (n : Int)] 114)).drew)
            have HA10 := Mem.Aside.mk ((HA9.out.alloc (.cells #[.int .i64 (k : Int), .int .i64 (A2 : Int), .int .i64 (n : Int)] 114)).drew)
            have HM10 := Mem.Aside.mk ((HM9.out.alloc (.cells #[.int .i64 (k : Int), .int .i64 (A2 : Int), .int .i64 (n : Int)] 114)).drew)
            have HC11 := Mem.Aside.mk ((HC10.out.alloc (.cells #[.int .i64 (k : Int), .int .i64 (A2 : Int), .int .i64 (n : Int)] 114)).drew)
            have CI := Mem.Aside.mk (insert_calls HA10.out (by rw [HMID.out.length]; omega) hle9 ⟨k, A2, n⟩ (nb := w9.heap.size) ((Blk.newL (w := w9) (extV ⟨k, A2, n⟩) rfl).drew) (fun e => Nat.lt_irrefl _ (HA9.out.lt e)))
            have hsz : w.heap.size ≤ w9.heap.size := HC10.out.size
            clear hle9
            have HX9' := Mem.Aside.mk HX9.out.drew
            have HX10 := Mem.Aside.mk ((HX9.out.alloc (.cells #[.int .i64 (k : Int), .int .i64 (A2 : Int), .int .i64 (n : Int)] 114)).drew)
            have s9 : w9.cell? ⟨p, 1, none⟩ = some allv := HS9.out.cellAt rfl
            have s10 : (w9.alloc (.cells #[.int .i64 (k : Int), .int .i64 (A2 : Int), .int .i64 (n : Int)] 114)).cell? ⟨p, 1, none⟩ = some allv := HS10.out.cellAt rfl
            have HPX : Mem.Aside (xb ≠ p) := ⟨HXB.out.1⟩
            have x0 : w9.cell? ⟨xb, 0, none⟩ = some (.int .i64 (k : Int)) := HX9.out.cellAt rfl
            have x1 : w9.cell? ⟨xb, 1, none⟩ = some (.int .i64 (A2 : Int)) := HX9.out.cellAt rfl
            have x2 : w9.cell? ⟨xb, 2, none⟩ = some (.int .i64 (n : Int)) := HX9.out.cellAt rfl
            go_region_law (first | (go_simp; go_at_call 65; (with_reducible refine CI.out.mono ?_); rintro e w12 ⟨v', rfl, hA12, hO12, hC12⟩; obtain ⟨a9, c9, rfl⟩ := Row_form hA12; have HA12 := Mem.Aside.mk hA12; have HO12 := Mem.Aside.mk hO12; have HC12 := Mem.Aside.mk hC12; have HS12 := Mem.Aside.mk (HS10.out.chg hC12 (fun hm => HALL.out (Option.mem_toList.1 hm))); have HX12 := Mem.Aside.mk (HX10.out.chg hC12 (fun hm => HXB.out.2 (Option.mem_toList.1 hm))); have s12 : w12.cell? ⟨p, 1, none⟩ = some allv := HS12.out.cellAt rfl; have f12 := HS12.out.frozen 1; clear hA12 hO12 hC12))
            all_goals go_wp2
            all_goals
              go_ret2
              have hIE : insAt s2.all I ⟨k, A2, n⟩ = insertE ⟨k, A2, n⟩ s2.all := by rw [HI0.out]; rfl
              have hA13 := HA12.out
              have hO13 := HO12.out
              have hS13 := HS12.out.set 1 (.slice a9 (insAt s2.all I ⟨k, A2, n⟩).length c9)
              rw [hIE] at hA13 hO13 hS13 ⊢
              have hids : ((⟨k, A2, n⟩ :: s2.all : List Ext).map Ext.id).Nodup := by
                rw [List.map_cons, List.nodup_cons]
                exact ⟨fun hm => HFR.out ((HMID.out.ids.mem_iff).1 hm), HMID.out.lay.ids⟩
              have hln : (insertE ⟨k, A2, n⟩ s2.all).length = s2.all.length + 1 := by have := (insertE_perm ⟨k, A2, n⟩ s2.all).length_eq; simpa using this
              refine ⟨k, ⟨splice raw4 A2 (List.replicate U 0), insertE ⟨k, A2, n⟩ s2.all, s2.used, s2.most⟩, foot p rawv4 (.slice a9 (insertE ⟨k, A2, n⟩ s2.all).length c9) mb, rfl, ⟨rawv4, _, mb, ⟨hS13, ?_, ?_, ?_⟩, rfl⟩, ?_, ?_, ?_⟩
              · exact (HR10.out.chg HC12.out (fun g hg hm => HAR.out g hg (Option.mem_toList.1 hm))).farCell (p := ⟨p, 1, none⟩) HAP.out _
              · refine hA13.farCell (p := ⟨p, 1, none⟩) ?_ _
                rcases hO13 with e | e
                · rw [e]; exact HALL.out
                · rw [e]
                  exact fun e2 => Nat.ne_of_gt HS10.out.lt (Option.some.inj e2)
              · have h1 := ((HM10.out.chg HC12.out (fun hm => HAM.out (Option.mem_toList.1 hm))).farCell (p := ⟨p, 1, none⟩) (Ne.symm HPM.out) (.slice a9 (insertE ⟨k, A2, n⟩ s2.all).length c9))
                show IMap _ _ _ _ (insertE ⟨k, A2, n⟩ s2.all).length (atOf (insertE ⟨k, A2, n⟩ s2.all))
                rw [hln] at h1 ⊢
                refine h1.congr (fun j _ => ?_)
                rw [atOf_perm hids (insertE_perm ⟨k, A2, n⟩ s2.all).symm j]
                unfold atOf
                rw [List.find?_cons]
                by_cases e : j = (k : Int)
                · subst e; simp
                · have e' : ¬ ((k : Int) = j) := fun h => e h.symm
                  simp [e, e']
              · have h1 := HMID.out.took HO.out HLT.out HFR.out HRAW.out (by rw [← HA2.out, ← HUU.out]; exact hle) (by rw [← HA2.out, ← HUU.out]; exact HK.out) (by
                  rw [← HA2.out, ← HUU.out, HMID.out.most, HMID.out.used, ← HUU.out, ← HMM.out]; exact hfit)
                rw [← HA2.out, ← HUU.out] at h1
                exact h1
              · exact (HC11.out.then HC12.out (fun y hy => .inl (mem_foot.2 (.inr (.inr (.inr (Option.mem_toList.1 hy))))))).setCell (p := ⟨p, 1, none⟩) (.inl (mem_foot.2 (.inl rfl))) _
              · intro y hy
                rcases mem_foot.1 hy with e | e | e | e
                · exact .inl (mem_foot.2 (.inl e))
                · exact .inl (mem_foot.2 (.inr (.inl e)))
                · rcases HOW5.out y e with e' | e'
                  · exact .inl (mem_foot.2 (.inr (.inr (.inl e'))))
                  · exact .inr e'
                · rcases hO13 with e' | e'
                  · exact .inl (mem_foot.2 (.inr (.inr (.inr (by rw [← e']; exact e)))))
                  · have h1 := Option.some.inj (e.symm.trans e')
                    have h2 := HC11.out.size
                    exact .inr (by rw [h1]; exact h2)
    · have hkw : (Lit.int .i64 (k : Int)).wf = true := WalkArith.wf_i64 ⟨by omega, by omega⟩
      have hlk := HLK.out (k : Int) hkw
      rw [atOf_isSome_iff] at hlk
      clear hkw
      by_cases c : k ∈ s.all.map Ext.id
      · rw [decide_eq_true c] at hlk
        have HC := Mem.Aside.mk c
        clear c
        have hw := (IntWalk.i64_in ((k : Int) + 1) (by omega) : IntKind.i64.wrap ((k : Int) + 1) = ((k + 1 : Nat) : Int))
        go_wp2
        go_roundw
        case rel =>
          have hlt : ∀ j < k + 1, j ∈ s.all.map Ext.id := fun j hj => by
            by_cases e : j = k
            · rw [e]; exact HC.out
            · exact HLT.out j (by omega)
          exact ⟨k + 1, true, by go_num, rfl, by have := least_le hlt; simpa using this, ⟨hlt⟩, ⟨by simp⟩, trivial⟩
        case measure =>
          have hlt : ∀ j < k + 1, j ∈ s.all.map Ext.id := fun j hj => by
            by_cases e : j = k
            · rw [e]; exact HC.out
            · exact HLT.out j (by omega)
          have := least_le hlt
          simp [intOf, b2n] at this ⊢; omega
      · rw [decide_eq_false c] at hlk
        have HC := Mem.Aside.mk c
        clear c
        go_wp2
        go_roundw
        case rel => exact ⟨k, false, rfl, rfl, hk, HLT, ⟨fun _ => HC.out⟩, trivial⟩
        case measure => simp [intOf, b2n]
end Go.Proofs.Ytgimcpnelogadaa.Sto
/- Chapter 5, the store: its methods over what it holds: a list of Ids, each with its bytes, in no order. -/
namespace Go.Proofs.Ytgimcpnelogadaa.Sto
open Go.RowKit Go.Proofs.Ytgimcpnelogadaa.Mem
set_option linter.unusedVariables false
set_option linter.unusedSimpArgs false

/-- At block p there is a store made of the blocks F that holds L; its most used bytes are m at most. -/
structure Holds (w : World) (p : Nat) (F : List Nat) (L : List (Nat × List UInt8)) (m : Nat) : Prop where
  ex : ∃ s, Sto w p s F ∧ Ok s ∧ s.pairs.Perm L ∧ s.most ≤ m
  ids : ∀ q ∈ L, q.1 ≤ 1000000000
  count : L.length ≤ 100000000
  most : m ≤ 100000000000

theorem Holds.chg {w w' : World} {p m : Nat} {F G : List Nat} {L : List (Nat × List UInt8)} (h : Holds w p F L m) (hc : Chg G w w') (hG : ∀ k ∈ F, k ∉ G) : Holds w' p F L m := by
  obtain ⟨⟨s, h1, h2⟩, h3, h4, h5⟩ := h
  exact ⟨⟨s, h1.chg hc hG, h2⟩, h3, h4, h5⟩
theorem Holds.perm {w : World} {p m : Nat} {F : List Nat} {L M : List (Nat × List UInt8)} (h : Holds w p F L m) (hp : L.Perm M) : Holds w p F M m := by
  obtain ⟨⟨s, h1, h2, h3, h4⟩, h5, h6, h7⟩ := h
  exact ⟨⟨s, h1, h2, h3.trans hp, h4⟩, fun q hq => h5 q (hp.mem_iff.2 hq), by rw [← hp.length_eq]; exact h6, h7⟩
theorem Holds.lt {w : World} {p m : Nat} {F : List Nat} {L : List (Nat × List UInt8)} (h : Holds w p F L m) : ∀ k ∈ F, k < w.heap.size := by
  obtain ⟨⟨s, h1, h2⟩, _⟩ := h
  exact h1.lt

theorem ok_new : Ok ⟨[], [], 0, 0⟩ := ⟨Lay.nil _, rfl, Nat.le_refl _, by simp⟩
theorem new_holds (w : World) : Calls Try.prog 21 #[] w fun e w' => ∃ p F, e = .returned (.pointer (some ⟨p, 0, none⟩)) ∧ Holds w' p F [] 0 ∧ Chg [] w w' ∧ ∀ k ∈ F, w.heap.size ≤ k := by
  refine (new_calls w).mono ?_
  rintro e w' ⟨p, F, h1, h2, h3, h4⟩
  exact ⟨p, F, h1, ⟨⟨_, h2, ok_new, .refl _, Nat.le_refl _⟩, by simp, by simp, by simp⟩, h3, h4⟩

theorem pairs_length (s : St) : s.pairs.length = s.all.length := by simp [St.pairs]

theorem take_holds {w : World} {p m : Nat} {F : List Nat} {L : List (Nat × List UInt8)} (h : Holds w p F L m) (n : Nat) (hn : n ≤ 8388608) (hl : L.length < 100000000) (hm : m + n + 7 ≤ 100000000000) :
    Calls Try.prog 22 #[.pointer (some ⟨p, 0, none⟩), .int .i64 (n : Int)] w fun e w' => ∃ (id : Nat) (F' : List Nat), e = .returned (.tuple #[.int .i64 (id : Int), .int .i64 0]) ∧ Holds w' p F' ((id, List.replicate n 0) :: L) (m + n + 7) ∧
      (∀ j < id, j ∈ L.map Prod.fst) ∧ id ∉ L.map Prod.fst ∧ Chg F w w' ∧ ∀ k ∈ F', k ∈ F ∨ w.heap.size ≤ k := by
  obtain ⟨⟨s, ⟨rawv, allv, mb, h1, rfl⟩, h2, h3, h4⟩, h5, h6, h7⟩ := h
  have hlen : s.all.length = L.length := by rw [← pairs_length, h3.length_eq]
  have hid : ∀ j, j ∈ s.all.map Ext.id ↔ j ∈ L.map Prod.fst := fun j => by rw [← pairs_ids, (h3.map Prod.fst).mem_iff]
  refine (take_ok h1 h2 (by omega) (by omega) (fun x hx => ?_) n hn).mono ?_
  · have := h5 (x.id, s.bytes x) (h3.mem_iff.1 (List.mem_map_of_mem hx))
    exact ⟨by omega, by simp at this; omega⟩
  · rintro e w' ⟨id, s', F', h8, h9, hT, hC, hF⟩
    have hup := up_le n
    have hle := least_le hT.least
    rw [List.length_map] at hle
    refine ⟨id, F', h8, ⟨⟨s', h9, hT.ok, hT.pairs.trans (.cons _ h3), ?_⟩, ?_, by simp; omega, hm⟩, fun j hj => (hid j).1 (hT.least j hj), fun hi => hT.fresh ((hid id).2 hi), hC, hF⟩
    · have a1 := hT.most; have a2 := hT.used; have a3 := h2.most; omega
    · intro q hq
      rcases List.mem_cons.1 hq with rfl | hq
      · show id ≤ _; omega
      · exact h5 q hq

/-- An Id of the list, as an extent. -/
theorem ext_of {s : St} {L : List (Nat × List UInt8)} (h3 : s.pairs.Perm L) {id : Nat} {bs : List UInt8} (hm : (id, bs) ∈ L) : ∃ i, ∃ hi : i < s.all.length, s.all[i].id = id ∧ s.bytes s.all[i] = bs := by
  obtain ⟨x, hx, e⟩ := List.mem_map.1 (h3.mem_iff.2 hm)
  obtain ⟨i, hi, rfl⟩ := List.getElem_of_mem hx
  exact ⟨i, hi, congrArg Prod.fst e, congrArg Prod.snd e⟩

theorem sl_sl {α : Type} {r : List α} {a n o k : Nat} (h : o + k ≤ n) : sl (sl r a n) o k = sl r (a + o) k := by
  apply List.ext_getElem?
  intro i
  by_cases hi : i < k
  · rw [sl_getElem? _ _ _ _ hi, sl_getElem? _ _ _ _ hi, sl_getElem? _ _ _ _ (by omega), Nat.add_assoc]
  · rw [List.getElem?_eq_none (by simp [sl]; omega), List.getElem?_eq_none (by simp [sl]; omega)]

theorem load_holds {w : World} {p m : Nat} {F : List Nat} {L : List (Nat × List UInt8)} (h : Holds w p F L m) {id : Nat} {bs : List UInt8} (hm : (id, bs) ∈ L) (o wd : Nat) (hw : wd = 1 ∨ wd = 2 ∨ wd = 4 ∨ wd = 8) (hfit : o + wd ≤ bs.length) (hmod : o % wd = 0) :
    Calls Try.prog 24 #[.pointer (some ⟨p, 0, none⟩), .int .i64 (id : Int), .int .i64 (o : Int), .int .i64 (wd : Int)] w fun e w' => e = .returned (.tuple #[.int .u64 (leN (sl bs o wd) : Nat), .int .i64 0]) ∧ Chg [] w w' := by
  have hq := h.ids _ hm
  obtain ⟨⟨s, ⟨rawv, allv, mb, h1, rfl⟩, h2, h3, h4⟩, h5, h6, h7⟩ := h
  have hlen : s.all.length = L.length := by rw [← pairs_length, h3.length_eq]
  obtain ⟨i, hi, rfl, rfl⟩ := ext_of h3 hm
  have hl := bytes_length h2 (List.getElem_mem hi)
  have hsp := h2.span
  have := load_ok h1 h2 (by omega) (by omega) hi ⟨by omega, by simp at hq; omega⟩ o wd hw (by omega) hmod
  rw [St.bytes, sl_sl (by omega)]
  exact this
theorem sl_splice_in {α : Type} {r ys : List α} {a n o : Nat} (h : o + ys.length ≤ n) (hr : a + n ≤ r.length) : sl (splice r (a + o) ys) a n = splice (sl r a n) o ys := by
  apply List.ext_getElem?
  intro i
  have hl : (sl r a n).length = n := sl_length hr
  by_cases hi : i < n
  · rw [sl_getElem? _ _ _ _ hi, splice_getElem? _ _ _ (by omega), splice_getElem? _ _ _ (by omega), sl_getElem? _ _ _ _ hi]
    by_cases c1 : i < o
    · rw [if_pos c1, if_pos (by omega)]
    · rw [if_neg c1, if_neg (by omega)]
      by_cases c2 : i < o + ys.length
      · rw [if_pos c2, if_pos (by omega), show a + i - (a + o) = i - o by omega]
      · rw [if_neg c2, if_neg (by omega)]
  · rw [List.getElem?_eq_none (by simp [sl]; omega), List.getElem?_eq_none (by rw [length_splice _ _ _ (by omega)]; omega)]

theorem Ok.write {s : St} (h : Ok s) {a : Nat} {ys : List UInt8} (hf : a + ys.length ≤ s.raw.length) : Ok (s.write a ys) := by
  have e : (s.write a ys).raw.length = s.raw.length := length_splice _ _ _ hf
  exact ⟨by rw [e]; exact h.lay, h.used, h.most, by rw [e]; exact h.span⟩

theorem write_pairs {s : St} (h : Ok s) {i : Nat} (hi : i < s.all.length) {o : Nat} {ys : List UInt8} (hf : o + ys.length ≤ s.all[i].len) {L : List (Nat × List UInt8)} (h3 : s.pairs.Perm ((s.all[i].id, s.bytes s.all[i]) :: L)) :
    (s.write (s.all[i].at_ + o) ys).pairs.Perm ((s.all[i].id, splice (s.bytes s.all[i]) o ys) :: L) := by
  have hin := h.lay.inside _ (List.getElem_mem hi)
  have hup := up_ge s.all[i].len
  have hsp : s.all = s.all.take i ++ s.all[i] :: s.all.drop (i + 1) := by rw [← List.drop_eq_getElem_cons hi, List.take_append_drop]
  obtain ⟨x, hx⟩ : ∃ x, x = s.all[i] := ⟨_, rfl⟩
  rw [← hx] at hf h3 hin hup hsp ⊢
  have hap := h.lay.apart
  rw [hsp, List.pairwise_append] at hap
  have hA : ∀ y ∈ s.all.take i, y.apart x := fun y hy => hap.2.2 y hy x (by simp)
  have hB : ∀ y ∈ s.all.drop (i + 1), y.apart x := fun y hy => Ext.apart_symm ((List.pairwise_cons.1 hap.2.1).1 y hy)
  have far : ∀ y, y.apart x → (s.write (x.at_ + o) ys).bytes y = s.bytes y := fun y hy => by
    show sl (splice s.raw (x.at_ + o) ys) y.at_ y.len = sl s.raw y.at_ y.len
    by_cases c : y.len = 0
    · rw [c]; simp [sl]
    · by_cases d : ys.length = 0
      · rw [List.eq_nil_of_length_eq_zero d, splice_nil]
      · have h1 := hy (by omega) (by omega)
        have h2 := up_ge y.len
        exact sl_splice_far (by omega) (by omega)
  have e1 : s.pairs = (s.all.take i).map (fun y => (y.id, s.bytes y)) ++ (x.id, s.bytes x) :: (s.all.drop (i + 1)).map (fun y => (y.id, s.bytes y)) := by
    unfold St.pairs
    conv => lhs; rw [hsp]
    rw [List.map_append, List.map_cons]
  have e2 : (s.write (x.at_ + o) ys).pairs = (s.all.take i).map (fun y => (y.id, s.bytes y)) ++ (x.id, splice (s.bytes x) o ys) :: (s.all.drop (i + 1)).map (fun y => (y.id, s.bytes y)) := by
    unfold St.pairs
    show s.all.map _ = _
    conv => lhs; rw [hsp]
    rw [List.map_append, List.map_cons]
    congr 1
    · exact List.map_congr_left fun y hy => by rw [far y (hA y hy)]
    · congr 1
      · have : (s.write (x.at_ + o) ys).bytes x = splice (s.bytes x) o ys := sl_splice_in hf (by omega)
        rw [this]
      · exact List.map_congr_left fun y hy => by rw [far y (hB y hy)]
  rw [e1] at h3
  rw [e2]
  exact List.perm_middle.trans (.cons _ ((List.perm_middle.symm.trans h3).cons_inv))

theorem save_holds {w : World} {p m : Nat} {F : List Nat} {L : List (Nat × List UInt8)} {id : Nat} {bs : List UInt8} (h : Holds w p F ((id, bs) :: L) m) (o wd : Nat) (hw : wd = 1 ∨ wd = 2 ∨ wd = 4 ∨ wd = 8) (hfit : o + wd ≤ bs.length) (hmod : o % wd = 0) (x : Nat) (hx : x < 18446744073709551616) :
    Calls Try.prog 23 #[.pointer (some ⟨p, 0, none⟩), .int .i64 (id : Int), .int .i64 (o : Int), .int .i64 (wd : Int), .int .u64 (x : Int)] w fun e w' => e = .returned (.int .i64 0) ∧ Holds w' p F ((id, splice bs o (leB x wd)) :: L) m ∧ Chg F w w' := by
  have hq := h.ids _ (List.mem_cons_self ..)
  obtain ⟨⟨s, ⟨rawv, allv, mb, h1, rfl⟩, h2, h3, h4⟩, h5, h6, h7⟩ := h
  have hlen : s.all.length = L.length + 1 := by rw [← pairs_length, h3.length_eq]; rfl
  simp only [List.length_cons] at h6
  obtain ⟨i, hi, rfl, rfl⟩ := ext_of h3 (List.mem_cons_self ..)
  have hl := bytes_length h2 (List.getElem_mem hi)
  have hsp := h2.span
  have hin := h2.lay.inside _ (List.getElem_mem hi)
  have hup := up_ge s.all[i].len
  refine (save_ok h1 h2 (by omega) (by omega) hi ⟨by omega, by simp at hq; omega⟩ o wd hw (by omega) hmod x hx).mono ?_
  rintro e w' ⟨h8, h9, h10⟩
  refine ⟨h8, ⟨⟨_, ⟨_, _, _, h9, rfl⟩, h2.write (by rw [leB_length]; omega), write_pairs h2 hi (by rw [leB_length]; omega) h3, h4⟩, ?_, by simpa using h6, h7⟩, h10⟩
  intro q hq'
  rcases List.mem_cons.1 hq' with rfl | hq'
  · exact hq
  · exact h5 q (List.mem_cons_of_mem _ hq')
end Go.Proofs.Ytgimcpnelogadaa.Sto
/- Chapter 5, the store: what is used; casketlaw5.awake. -/
namespace Go.Proofs.Ytgimcpnelogadaa.Sto
open Go.RowKit Go.Proofs.Ytgimcpnelogadaa.Mem
set_option linter.unusedVariables false
set_option linter.unusedSimpArgs false

theorem used_holds {w : World} {p m : Nat} {F : List Nat} {L : List (Nat × List UInt8)} (h : Holds w p F L m) :
    Calls Try.prog 29 #[.pointer (some ⟨p, 0, none⟩)] w fun e w' => e = .returned (.int .i64 (totalL L : Nat)) ∧ w = w' := by
  obtain ⟨⟨s, h1, h2, h3, h4⟩, _⟩ := h
  have e : totalL L = s.used := by
    rw [h2.used]
    unfold totalL
    rw [← (h3.map fun x => up x.2.length).sum_nat]
    unfold St.pairs
    rw [List.map_map]
    unfold Sto.total
    congr 1
    exact List.map_congr_left fun x hx => by simp [bytes_length h2 hx]
  rw [e]
  exact used_calls h1

/-- What 'awake' does. -/
theorem awake_calls (w : World) : Calls Try.prog 25 #[] w fun e w' => e = .returned (.bool true) ∧ Chg [] w w' := by
  have CN := Mem.Aside.mk (new_holds w)
  go_enter Try.func25, Try.ntmps25
  go_wp2_with (first
    | (go_at_call 21; (with_reducible refine CN.out.mono ?_); rintro e w1 ⟨p, F, rfl, h1, hc1, hF⟩; have H1 := Mem.Aside.mk h1; have HC1 := Mem.Aside.mk hc1; have HF := Mem.Aside.mk hF; have CT := Mem.Aside.mk (take_holds h1 3 (by decide) (by decide) (by decide)); rw [show (((3 : Nat) : Int)) = 3 from rfl] at CT; clear h1 hc1 hF)
    | (go_at_call 22; (with_reducible refine CT.out.mono ?_); rintro e w2 ⟨id, F2, rfl, h2, hl2, hn2, hc2, hF2⟩; obtain rfl : id = 0 := (by { cases id with | zero => rfl | succ j => exact absurd (hl2 j (Nat.lt_succ_self j)) (by simp) }); have H2 := Mem.Aside.mk h2; have HC2 := Mem.Aside.mk (HC1.out.then hc2 (fun x hx => .inr (HF.out x hx))); have HF2 := Mem.Aside.mk (fun x (hx : x ∈ F2) => (hF2 x hx).elim (HF.out x) (fun h => Nat.le_trans HC1.out.size h)); have CS := Mem.Aside.mk (save_holds h2 0 2 (by decide) (by decide) (by decide) 258 (by decide)); rw [show ((0 : Nat) : Int) = 0 from rfl, show ((2 : Nat) : Int) = 2 from rfl, show ((258 : Nat) : Int) = 258 from rfl] at CS; clear h2 hl2 hn2 hc2 hF2)
    | (go_at_call 23; (with_reducible refine CS.out.mono ?_); rintro e w3 ⟨rfl, h3, hc3⟩; have H3 := Mem.Aside.mk h3; have HC3 := Mem.Aside.mk (HC2.out.then hc3 (fun x hx => .inr (HF2.out x hx))); have CL := Mem.Aside.mk (load_holds h3 (List.mem_cons_self ..) 1 1 (by decide) (by decide) (by decide)); rw [show leN (sl (splice (List.replicate 3 (0 : UInt8)) 0 (leB 258 2)) 1 1) = 1 by decide] at CL; rw [show ((0 : Nat) : Int) = 0 from rfl, show ((1 : Nat) : Int) = 1 from rfl] at CL; clear h3 hc3)
    | (go_at_call 24; (with_reducible refine CL.out.mono ?_); rintro e w4 ⟨rfl, hc4⟩; have H4 := Mem.Aside.mk (H3.out.chg hc4 (by simp)); have HC4 := Mem.Aside.mk (HC3.out.then hc4 (by simp)); have CU := Mem.Aside.mk (used_holds H4.out); rw [show totalL [(0, splice (List.replicate 3 (0 : UInt8)) 0 (leB 258 2))] = 8 by decide] at CU; rw [show ((8 : Nat) : Int) = 8 from rfl] at CU; clear hc4)
    | (go_at_call 29; (with_reducible refine CU.out.mono ?_); rintro e w5 ⟨rfl, rfl⟩))
  go_ret
  exact ⟨rfl, HC4.out⟩
end Go.Proofs.Ytgimcpnelogadaa.Sto
/- Chapter 5, the store: Give, Len, Pack over what it holds. -/
namespace Go.Proofs.Ytgimcpnelogadaa.Sto
open Go.RowKit Go.Proofs.Ytgimcpnelogadaa.Mem
set_option linter.unusedVariables false
set_option linter.unusedSimpArgs false

theorem foot_congr {p mb : Nat} {r r' a a' : Value} (hr : r'.ownBlock = r.ownBlock) (ha : a'.ownBlock = a.ownBlock) : foot p r' a' mb = foot p r a mb := by unfold foot; rw [hr, ha]

theorem atOf_pairs {s : St} {L : List (Nat × List UInt8)} (h : s.pairs.Perm L) {k : Int} (hn : ∀ q ∈ L, (q.1 : Int) ≠ k) : atOf s.all k = none :=
  atOf_none fun x hx => hn (x.id, s.bytes x) (h.mem_iff.1 (List.mem_map_of_mem hx))

theorem give_absent {w : World} {p m : Nat} {F : List Nat} {L : List (Nat × List UInt8)} (h : Holds w p F L m) (k : Int) (hk : I64 k) (hn : ∀ q ∈ L, (q.1 : Int) ≠ k) :
    Calls Try.prog 26 #[.pointer (some ⟨p, 0, none⟩), .int .i64 k] w fun e w' => e = .returned (.int .i64 30) ∧ w = w' := by
  obtain ⟨⟨s, h1, h2, h3, h4⟩, _⟩ := h
  exact give_none h1 k hk (atOf_pairs h3 hn)
theorem len_absent {w : World} {p m : Nat} {F : List Nat} {L : List (Nat × List UInt8)} (h : Holds w p F L m) (k : Int) (hk : I64 k) (hn : ∀ q ∈ L, (q.1 : Int) ≠ k) :
    Calls Try.prog 28 #[.pointer (some ⟨p, 0, none⟩), .int .i64 k] w fun e w' => e = .returned (.tuple #[.int .i64 0, .int .i64 30]) ∧ w = w' := by
  obtain ⟨⟨s, h1, h2, h3, h4⟩, _⟩ := h
  exact len_none h1 k hk (atOf_pairs h3 hn)
theorem len_holds {w : World} {p m : Nat} {F : List Nat} {L : List (Nat × List UInt8)} (h : Holds w p F L m) {id : Nat} {bs : List UInt8} (hm : (id, bs) ∈ L) :
    Calls Try.prog 28 #[.pointer (some ⟨p, 0, none⟩), .int .i64 (id : Int)] w fun e w' => e = .returned (.tuple #[.int .i64 (bs.length : Int), .int .i64 0]) ∧ Chg [] w w' := by
  have hq := h.ids _ hm
  obtain ⟨⟨s, h1, h2, h3, h4⟩, h5, h6, h7⟩ := h
  have hlen : s.all.length = L.length := by rw [← pairs_length, h3.length_eq]
  obtain ⟨i, hi, rfl, rfl⟩ := ext_of h3 hm
  rw [bytes_length h2 (List.getElem_mem hi)]
  exact len_some h1 h2 (by omega) hi ⟨by omega, by simp at hq; omega⟩

theorem give_holds {w : World} {p m : Nat} {F : List Nat} {L : List (Nat × List UInt8)} {id : Nat} {bs : List UInt8} (h : Holds w p F ((id, bs) :: L) m) :
    Calls Try.prog 26 #[.pointer (some ⟨p, 0, none⟩), .int .i64 (id : Int)] w fun e w' => e = .returned (.int .i64 0) ∧ Holds w' p F L m ∧ Chg F w w' := by
  have hq := h.ids _ (List.mem_cons_self ..)
  obtain ⟨⟨s, ⟨rawv, allv, mb, h1, rfl⟩, h2, h3, h4⟩, h5, h6, h7⟩ := h
  have hlen : s.all.length = L.length + 1 := by rw [← pairs_length, h3.length_eq]; rfl
  simp only [List.length_cons] at h6
  obtain ⟨i, hi, rfl, rfl⟩ := ext_of h3 (List.mem_cons_self ..)
  have hsp := h2.span
  refine (give_some h1 h2 (by omega) (by omega) (by omega) hi ⟨by omega, by simp at hq; omega⟩).mono ?_
  rintro e w' ⟨allv', h8, h9, h10, h11⟩
  have hs : s.all = s.all.take i ++ s.all[i] :: s.all.drop (i + 1) := by rw [← List.drop_eq_getElem_cons hi, List.take_append_drop]
  have he : s.all.eraseIdx i = s.all.take i ++ s.all.drop (i + 1) := List.eraseIdx_eq_take_drop_succ ..
  have ht : total s.all = up s.all[i].len + total (s.all.eraseIdx i) := by
    rw [he, total_append]
    have := congrArg total hs
    rw [total_append, total_cons] at this
    omega
  have hu : (s.gave i).used = total (s.all.eraseIdx i) := by
    show s.used - up (s.all.getD i default).len = _
    rw [List.getD_eq_getElem?_getD, List.getElem?_eq_getElem hi, Option.getD_some, h2.used]
    omega
  refine ⟨h8, ⟨⟨s.gave i, ⟨_, _, _, h9, (foot_congr rfl h10).symm⟩, ⟨h2.lay.erase i, hu, ?_, hsp⟩, ?_, h4⟩, fun q hq' => h5 q (List.mem_cons_of_mem _ hq'), by omega, h7⟩, h11⟩
  · have a1 := h2.most; have a2 := h2.used
    rw [hu]
    show _ ≤ s.most
    omega
  · have e1 : s.pairs = (s.all.take i).map (fun y => (y.id, s.bytes y)) ++ (s.all[i].id, s.bytes s.all[i]) :: (s.all.drop (i + 1)).map (fun y => (y.id, s.bytes y)) := by
      unfold St.pairs
      conv => lhs; rw [hs]
      rw [List.map_append, List.map_cons]
    have e2 : (s.gave i).pairs = (s.all.take i).map (fun y => (y.id, s.bytes y)) ++ (s.all.drop (i + 1)).map (fun y => (y.id, s.bytes y)) := by
      show (s.all.eraseIdx i).map (fun y => (y.id, s.bytes y)) = _
      rw [he, List.map_append]
    rw [e1] at h3
    rw [e2]
    exact (List.perm_middle.symm.trans h3).cons_inv

/-- Packed: the bytes are the extents' alone. -/
theorem pack_holds {w : World} {p m : Nat} {F : List Nat} {L : List (Nat × List UInt8)} (h : Holds w p F L m) :
    Calls Try.prog 27 #[.pointer (some ⟨p, 0, none⟩)] w fun e w' => e = .returned (.tuple #[]) ∧ Holds w' p F L m ∧ (∃ s, Sto w' p s F ∧ s.raw.length = totalL L) ∧ Chg F w w' := by
  have hids := h.ids
  obtain ⟨⟨s, ⟨rawv, allv, mb, h1, rfl⟩, h2, h3, h4⟩, h5, h6, h7⟩ := h
  have hlen : s.all.length = L.length := by rw [← pairs_length, h3.length_eq]
  have hsp := h2.span
  have htl : totalL L = s.used := by
    rw [h2.used]
    unfold totalL
    rw [← (h3.map fun x => up x.2.length).sum_nat]
    unfold St.pairs
    rw [List.map_map]
    unfold Sto.total
    congr 1
    exact List.map_congr_left fun x hx => by simp [bytes_length h2 hx]
  refine (pack_calls h1 h2.lies (by omega) (by omega) (fun x hx => ?_)).mono ?_
  · have := hids (x.id, s.bytes x) (h3.mem_iff.1 (List.mem_map_of_mem hx))
    exact ⟨by omega, by simp at this; omega⟩
  · rintro e w' ⟨s', rawv', h8, h9, h10, h11, raw, hp, hr, ha, hs, hu, hm⟩
    have hmo := h2.most
    have M := Mid.packed h2 (n := 0) hp hr ha hs (by rw [hu]; rfl) (by rw [hm]; show s.most = max s.most (s.used + 0); omega)
    have hl : s'.raw.length = s.used := by
      rw [hr, List.length_take, hp.length, h2.used]
      exact Nat.min_eq_left h2.lay.total_le
    refine ⟨h8, ⟨⟨s', ⟨_, _, _, h9, (foot_congr h10 rfl).symm⟩, ⟨M.lay, by rw [hu, M.total], by rw [hu, hm]; exact hmo, M.span⟩, M.pairs.trans h3, by rw [hm]; exact h4⟩, h5, h6, h7⟩, ⟨s', ⟨_, _, _, h9, (foot_congr h10 rfl).symm⟩, by rw [hl, htl]⟩, h11⟩
end Go.Proofs.Ytgimcpnelogadaa.Sto
/- Chapter 1, plain: what a word is. No program in sight. -/
namespace Go.Proofs.Ytgimcpnelogadaa.Wd
set_option linter.unusedVariables false

/-- A NaN's pattern. -/
def nanB (w : Nat) : Bool := decide (18437736874454810624 < 2 * w % 18446744073709551616)
/-- Which class a word has. -/
def cls (w : Nat) : Nat :=
  if nanB w = false ∨ w = 9221120237041090560 then 1
  else if w / 2251799813685248 ≠ 8191 then 7
  else if w / 281474976710656 % 8 = 0 then (if w % 281474976710656 = 0 then 3 else if w % 281474976710656 = 1 ∨ w % 281474976710656 = 2 then 4 else 7)
  else if w / 281474976710656 % 8 = 1 then 2
  else if w / 281474976710656 % 8 = 2 then (if w % 281474976710656 / 1099511627776 ≤ 5 ∧ w % 1099511627776 / 2 ^ (8 * (w % 281474976710656 / 1099511627776)) = 0 then 5 else 7)
  else if w / 281474976710656 % 8 = 3 then 6
  else 7
/-- The number of a word's handle. -/
def hdl (w : Nat) : Option Nat := if w / 281474976710656 = 65531 then some (w % 281474976710656) else none
/-- The word of a handle. -/
def hw (n : Nat) : Nat := 18445336698825998336 + n
theorem hdl_hw {n : Nat} (h : n < 281474976710656) : hdl (hw n) = some n := by
  unfold hdl hw
  rw [if_pos (by omega)]
  congr 1
  omega
theorem hw_hdl {w n : Nat} (h : hdl w = some n) : w = hw n ∧ n < 281474976710656 := by
  unfold hdl at h
  split at h
  · cases h; unfold hw; omega
  · cases h
theorem cls_hdl {w : Nat} (h : w < 18446744073709551616) : cls w = 6 ↔ (hdl w).isSome := by
  unfold cls hdl nanB
  by_cases c : w / 281474976710656 = 65531
  · rw [if_pos c]
    have h1 : ¬ (decide (18437736874454810624 < 2 * w % 18446744073709551616) = false ∨ w = 9221120237041090560) := by
      rw [decide_eq_false_iff_not]; omega
    rw [if_neg h1, if_neg (by omega), if_neg (by omega), if_neg (by omega), if_neg (by omega), if_pos (by omega)]
    simp
  · rw [if_neg c]
    simp only [Option.isSome_none, Bool.false_eq_true, iff_false]
    intro he
    split at he
    · cases he
    · split at he
      · cases he
      · rename_i h2
        split at he
        · split at he
          · cases he
          · split at he <;> cases he
        · split at he
          · cases he
          · split at he
            · split at he <;> cases he
            · split at he
              · omega
              · cases he
end Go.Proofs.Ytgimcpnelogadaa.Wd
/- Chapter 1: the functions on words that a heap asks. -/
namespace Go.Proofs.Ytgimcpnelogadaa.Wd
open Go.RowKit Go.Proofs.Ytgimcpnelogadaa.Mem Go.Proofs.Ytgimcpnelogadaa.Sto
set_option linter.unusedVariables false
set_option linter.unusedSimpArgs false

theorem u64_in {n : Nat} (h : n < 18446744073709551616) : IntKind.u64.wrap (n : Int) = (n : Int) := by rw [IntKind.wrap_u64]; omega
theorem and_mask (w k : Nat) (hw : w < 2 ^ 64) (hk : k ≤ 64) : bits .and .u64 (w : Int) (((2 ^ k - 1 : Nat)) : Int) = ((w % 2 ^ k : Nat) : Int) := by
  have hk2 : 2 ^ k ≤ 2 ^ 64 := Nat.pow_le_pow_right (by omega) hk
  have hp : 0 < 2 ^ k := Nat.pow_pos (by omega)
  show IntKind.u64.wrap ((BitVec.ofInt 64 (w : Int) &&& BitVec.ofInt 64 ((2 ^ k - 1 : Nat) : Int)).toNat : Int) = _
  rw [BitVec.toNat_and, ofInt_u64 _ hw, ofInt_u64 _ (by omega), Nat.and_two_pow_sub_one_eq_mod]
  exact u64_in (by have := Nat.mod_lt w hp; omega)

theorem nan_calls (w : Nat) (hw : w < 18446744073709551616) (W : World) : Calls Try.prog 125 #[.int .u64 (w : Int)] W fun e w' => e = .returned (.bool (nanB w)) ∧ W = w' := by
  have hwr : IntKind.u64.wrap ((w : Int) * 2) = ((2 * w % 18446744073709551616 : Nat) : Int) := by rw [IntKind.wrap_u64]; omega
  have HW := Mem.Aside.mk hwr
  clear hwr
  go_enter Try.func125, Try.ntmps125
  go_wp2
  all_goals go_ret
  refine ⟨ret_bool ?_, rfl⟩
  rw [HW.out]
  unfold nanB
  congr 1
  exact propext ⟨fun h => by omega, fun h => by omega⟩
theorem class_calls (w : Nat) (hw : w < 18446744073709551616) (W : World) : Calls Try.prog 102 #[.int .u64 (w : Int)] W fun e w' => e = .returned (.int .i64 (cls w : Nat)) ∧ W = w' := by
  have CN := Mem.Aside.mk (nan_calls w hw)
  have hL := and_mask w 48 (by omega) (by omega)
  rw [show (2 ^ 48 - 1 : Nat) = 281474976710655 by decide, show (2 : Nat) ^ 48 = 281474976710656 by decide] at hL
  have hT : bits .and .u64 ((w : Int) / 281474976710656) 7 = ((w / 281474976710656 % 8 : Nat) : Int) := by
    have := and_mask (w / 281474976710656) 3 (by omega) (by omega)
    rw [show (2 ^ 3 - 1 : Nat) = 7 by decide, show (2 : Nat) ^ 3 = 8 by decide] at this
    rw [← this]; simp
  have hA40 : bits .and .u64 ((w : Int) % 281474976710656) 1099511627775 = ((w % 1099511627776 : Nat) : Int) := by
    rw [show (w : Int) % 281474976710656 = ((w % 281474976710656 : Nat) : Int) by omega]
    have := and_mask (w % 281474976710656) 40 (by omega) (by omega)
    rw [show (2 ^ 40 - 1 : Nat) = 1099511627775 by decide, show (2 : Nat) ^ 40 = 1099511627776 by decide, show w % 281474976710656 % 1099511627776 = w % 1099511627776 by omega] at this
    exact this
  obtain ⟨V, hV⟩ : ∃ V, V = w % 1099511627776 / 2 ^ (8 * (w % 281474976710656 / 1099511627776)) := ⟨_, rfl⟩
  have hKI : (((w : Int) % 1099511627776) / 2 ^ (8 * (w % 281474976710656 / 1099511627776)) = 0) ↔ V = 0 := by
    rw [show (w : Int) % 1099511627776 = ((w % 1099511627776 : Nat) : Int) by omega, hV, ← Int.natCast_eq_zero, Int.natCast_ediv, Int.natCast_pow]; rfl
  have HKI := Mem.Aside.mk hKI
  have HV := Mem.Aside.mk hV
  clear hKI hV
  obtain ⟨B, hB⟩ : ∃ B, B = nanB w := ⟨_, rfl⟩
  rw [← hB] at CN
  have hL' : bits .and .u64 (w : Int) 281474976710655 = ((w % 281474976710656 : Nat) : Int) := hL
  clear hL
  have HB := Mem.Aside.mk hB
  clear hB
  cases B with
  | false =>
    go_enter Try.func102, Try.ntmps102
    go_wp2_with (go_at_call 125; (with_reducible refine (CN.out _).mono ?_); rintro e w' ⟨rfl, rfl⟩)
    all_goals (try go_wp2)
    all_goals go_ret
    all_goals exact ⟨ret_int (by unfold cls; rw [← HB.out]; simp), rfl⟩
  | true =>
    by_cases c1 : w = 9221120237041090560
    · have c1' : ((w : Int) == 9221120237041090560) = true := by rw [c1]; decide
      have HC1 := Mem.Aside.mk c1
      clear c1
      go_enter Try.func102, Try.ntmps102
      go_wp2_with (go_at_call 125; (with_reducible refine (CN.out _).mono ?_); rintro e w' ⟨rfl, rfl⟩)
      all_goals go_ret
      all_goals exact ⟨ret_int (by unfold cls; rw [if_pos (.inr HC1.out)]; rfl), rfl⟩
    · have c1' : ((w : Int) == 9221120237041090560) = false := by simpa using fun h => c1 (by omega)
      have HC : Mem.Aside (¬ (nanB w = false ∨ w = 9221120237041090560)) := ⟨by rw [← HB.out]; simpa using c1⟩
      go_enter Try.func102, Try.ntmps102
      go_wp2_with (go_at_call 125; (with_reducible refine (CN.out _).mono ?_); rintro e w' ⟨rfl, rfl⟩)
      all_goals go_ret
      all_goals refine ⟨ret_int ?_, rfl⟩
      all_goals unfold cls
      all_goals rw [if_neg HC.out, ← HV.out]
      all_goals simp only [HKI.out, bne_iff_ne, beq_iff_eq, bne_eq_false_iff_eq, beq_eq_false_iff_ne, ne_eq, decide_eq_true_eq, decide_eq_false_iff_not, Bool.and_eq_true, Bool.and_eq_false_iff] at *
      all_goals (repeat' split) <;> first | rfl | omega | skip
end Go.Proofs.Ytgimcpnelogadaa.Wd
/- Chapter 1: handles in words and out of them. -/
namespace Go.Proofs.Ytgimcpnelogadaa.Wd
open Go.RowKit Go.Proofs.Ytgimcpnelogadaa.Mem Go.Proofs.Ytgimcpnelogadaa.Sto
set_option linter.unusedVariables false
set_option linter.unusedSimpArgs false

theorem hdl_mod {w n : Nat} (h : hdl w = some n) : n = w % 281474976710656 := by
  unfold hdl at h
  split at h
  · cases h; rfl
  · cases h
theorem toHandle_some {w n : Nat} (hw : w < 18446744073709551616) (h : hdl w = some n) (W : World) : Calls Try.prog 121 #[.int .u64 (w : Int)] W fun e w' => e = .returned (.tuple #[.int .u64 (n : Int), .bool true]) ∧ W = w' := by
  have CC := Mem.Aside.mk (class_calls w hw)
  have hc : cls w = 6 := (cls_hdl hw).2 (by rw [h]; rfl)
  rw [hc, show ((6 : Nat) : Int) = 6 from rfl] at CC
  have hL := and_mask w 48 (by omega) (by omega)
  have hL' : bits .and .u64 (w : Int) 281474976710655 = ((w % 281474976710656 : Nat) : Int) := hL
  have HN := Mem.Aside.mk (hdl_mod h)
  clear hL hc h
  go_enter Try.func121, Try.ntmps121
  go_wp2_with (go_at_call 102; (with_reducible refine (CC.out _).mono ?_); rintro e w' ⟨rfl, rfl⟩)
  go_ret2
  rw [HN.out]
  exact ⟨rfl, rfl⟩
theorem toHandle_none {w : Nat} (hw : w < 18446744073709551616) (h : hdl w = none) (W : World) : Calls Try.prog 121 #[.int .u64 (w : Int)] W fun e w' => e = .returned (.tuple #[.int .u64 0, .bool false]) ∧ W = w' := by
  have CC := Mem.Aside.mk (class_calls w hw)
  have hc : cls w ≠ 6 := fun e => by have := (cls_hdl hw).1 e; rw [h] at this; cases this
  obtain ⟨C, hC⟩ : ∃ C, C = cls w := ⟨_, rfl⟩
  rw [← hC] at CC hc
  have hc' : ((C : Int) != 6) = true := by simpa using fun e => hc (by omega)
  clear hC h hc
  go_enter Try.func121, Try.ntmps121
  go_wp2_with (go_at_call 102; (with_reducible refine (CC.out _).mono ?_); rintro e w' ⟨rfl, rfl⟩)
  go_ret2
  exact ⟨rfl, rfl⟩

/-- Two numbers without a bit in common. -/
theorem or_add (a b k : Nat) (ha : a < 18446744073709551616) (hb : b < 2 ^ k) (hk : k ≤ 64) (hm : a % 2 ^ k = 0) (hs : a + b < 18446744073709551616) : bits .or .u64 (a : Int) (b : Int) = ((a + b : Nat) : Int) := by
  have hk2 : 2 ^ k ≤ 2 ^ 64 := Nat.pow_le_pow_right (by omega) hk
  rw [u64_or_nat a b ha (by omega)]
  congr 1
  have e : a = 2 ^ k * (a / 2 ^ k) := by have := Nat.div_add_mod a (2 ^ k); omega
  rw [e, ← Nat.two_pow_add_eq_or_of_lt hb]
theorem fromHandle_calls (n : Nat) (hn : n < 281474976710656) (W : World) : Calls Try.prog 87 #[.int .u64 (n : Int)] W fun e w' => e = .returned (.tuple #[.int .u64 (hw n : Nat), .bool true]) ∧ W = w' := by
  go_enter Try.func87, Try.ntmps87
  go_wp2
  go_ret2
  have h1 : bits .or .u64 18444492273895866368 844424930131968 = 18445336698825998336 := or_add 18444492273895866368 844424930131968 50 (by decide) (by decide) (by decide) (by decide) (by decide)
  have h2 := or_add 18445336698825998336 n 48 (by decide) (by omega) (by decide) (by decide) (by omega)
  have h3 : bits .or .u64 (bits .or .u64 18444492273895866368 844424930131968) (n : Int) = (hw n : Nat) := by rw [h1]; exact h2
  refine ⟨?_, rfl⟩
  rw [← h3]
  rfl
end Go.Proofs.Ytgimcpnelogadaa.Wd
/- Memory: a range over a map of whole numbers that the call has made; how many entries it has. No program in sight. -/
namespace Go.Proofs.Ytgimcpnelogadaa.Mem
open Go.RowKit
set_option linter.unusedVariables false

/-- Block r is an iterator over the map b, which has what f tells; 'left k': key k is still to come; cnt: how many are. -/
def IRng (P : Program) (T : TypeId) (w : World) (b r : Nat) (f : Int → Option Int) (left : Int → Bool) (cnt : Nat) : Prop :=
  ∃ (n : Nat) (D : DataW Unit) (lf : Lit → Bool), w.ranges P T (plainElem P T) b r n D lf cnt ∧
    (∀ k : Int, (Lit.int .i64 k).wf = true → Maps.has D (.int .i64 k) = (f k).isSome ∧ D.atKey (.int .i64 k) (.lit (.int .i64 0)) = .lit (.int .i64 ((f k).getD 0)) ∧ (Lit.int .i64 ((f k).getD 0)).wf = true) ∧
    ∀ k : Int, (Lit.int .i64 k).wf = true → lf (.int .i64 k) = left k ∧ (left k = true → (f k).isSome)

section
variable {P : Program} {T t : TypeId} {w w' : World} {b r n cnt : Nat} {f : Int → Option Int} {left : Int → Bool}
theorem IRng.keep (h : IRng P T w b r f left cnt) (hb : w'.heap[b]? = w.heap[b]?) (hr : w'.heap[r]? = w.heap[r]?) : IRng P T w' b r f left cnt := by
  obtain ⟨n, D, lf, ⟨es, clock, since, seen, c0, h1, h2, h3, h4, h5, h6⟩, h7⟩ := h
  exact ⟨n, D, lf, ⟨es, clock, since, seen, c0, hb.trans h1, h2, h3, h4, hr.trans h5, h6⟩, h7⟩
theorem IRng.lt (h : IRng P T w b r f left cnt) : b < w.heap.size ∧ r < w.heap.size := by
  obtain ⟨n, D, lf, h1, h7⟩ := h
  exact ⟨h1.owns.lt, h1.lt⟩
theorem IRng.chg {F : List Nat} (h : IRng P T w b r f left cnt) (hc : Chg F w w') (hb : b ∉ F) (hr : r ∉ F) : IRng P T w' b r f left cnt :=
  h.keep (hc.block b h.lt.1 hb) (hc.block r h.lt.2 hr)
theorem IRng.map (h : IRng P T w b r f left cnt) : ∃ n, IMap P T w b n f := by
  obtain ⟨n, D, lf, h1, h2, h3⟩ := h
  exact ⟨n, D, h1.owns, h2⟩
theorem IRng.left_eq (h : IRng P T w b r f left cnt) : w.rangeLeft b r = cnt := by
  obtain ⟨n, D, lf, h1, h2, h3⟩ := h
  exact h1.left_eq
theorem IMap.range (h : IMap P T w b n f) (ht : P.underlying t = some (.map T T)) (hT : P.underlying T = some (.int .i64)) :
    ∃ w' c, (Instr.range t (.map (some b))).run P w = .ok (.pointer (some ⟨w.heap.size, 0, none⟩)) w' ∧ IRng P T w' b w.heap.size f (fun k => (f k).isSome) c ∧ Chg [] w w' := by
  obtain ⟨D, hD, hf⟩ := h
  obtain ⟨w', h1, h2, h3, h4⟩ := hD.range (Maps.int_keyed hT) ht
  exact ⟨w', _, h1, ⟨n, D, _, h2, hf, fun k hk => ⟨(hf k hk).1, fun h => h⟩⟩, Chg.of_grown h3 (by simp)⟩
theorem IRng.next (h : IRng P T w b r f left cnt) (hT : P.underlying T = some (.int .i64)) (ty : TypeId) :
    (cnt = 0 ∧ (∀ k, (Lit.int .i64 k).wf = true → left k = false) ∧ (Instr.next (.pointer (some ⟨r, 0, none⟩)) false ty).run P w = .ok (.tuple #[.bool false]) w) ∨
    ∃ k v w' cnt', (Lit.int .i64 k).wf = true ∧ left k = true ∧ f k = some v ∧ (Instr.next (.pointer (some ⟨r, 0, none⟩)) false ty).run P w = .ok (.tuple #[.bool true, .int .i64 k, .int .i64 v]) w' ∧
      IRng P T w' b r f (fun x => left x && !decide (x = k)) cnt' ∧ cnt' < cnt ∧ Chg [r] w w' ∧ (Instr.entry (.pointer (some ⟨r, 0, none⟩))).run P w' = .ok (.tuple #[.int .i64 k, .int .i64 v]) w' := by
  obtain ⟨n, D, lf, h1, hf, hl⟩ := h
  rcases h1.next (Maps.int_keyed hT) ty with ⟨h0, hl0, hrun⟩ | ⟨key, v, kl, y, w', cnt', hkey, hlk, hv, hat, hrun, hrg, hlt, hgr, hsz, hen⟩
  · exact .inl ⟨h0, fun k hk => (hl k hk).1.symm.trans (hl0 _), hrun⟩
  · right
    obtain ⟨k, rfl, rfl, hk⟩ := Maps.keyOf_int_inv hT hkey
    obtain ⟨c, rfl, hc, hwc⟩ := plainElem_int_inv hT hv
    have hlk' : left k = true := (hl k hk).1.symm.trans hlk
    have hs := (hl k hk).2 hlk'
    have hfk : f k = some c := by
      have a2 := (hf k hk).2.1
      rw [hat, hc] at a2
      obtain ⟨z, hz⟩ := Option.isSome_iff_exists.1 hs
      rw [hz] at a2 ⊢
      simp only [DataW.lit.injEq, Lit.int.injEq, true_and, Option.getD_some] at a2
      rw [a2]
    refine ⟨k, c, w', cnt', hk, hlk', hfk, hrun, ⟨n, D, _, hrg, hf, fun x hx => ?_⟩, hlt, Chg.of_grown hgr (by simp), hen⟩
    have e : (Lit.int .i64 x).sameKey (.int .i64 k) = decide (x = k) := by simp [Lit.sameKey]
    rw [e, (hl x hx).1]
    refine ⟨rfl, fun h => (hl x hx).2 ?_⟩
    simp at h
    exact h.1

/-- 'len(m)'. -/
theorem IMap.len (h : IMap P T w b n f) (ht : P.underlying t = some (.map T T)) (hT : P.underlying T = some (.int .i64)) (l : List Int) (hn : l.Nodup) (hl : ∀ k, (Lit.int .i64 k).wf = true → ((f k).isSome ↔ k ∈ l)) (hw : ∀ k ∈ l, (Lit.int .i64 k).wf = true) :
    ∃ D : DataW Unit, w.ownsMap P T (plainElem P T) b n D ∧ Maps.size D = l.length := by
  obtain ⟨D, hD, hf⟩ := h
  refine ⟨D, hD, ?_⟩
  obtain ⟨es, clock, hb, F, hs, rfl⟩ := hD
  have hkeys := Maps.fit_keys F
  have hap := Maps.fit_apart (Maps.int_keyed hT) F
  have hperm := Go.WideShapes.sorted_perm (es.toList.map (WideElems.rg P T (plainElem (H := Unit) P T)))
  have hlen : (es.toList.map (WideElems.rg P T (plainElem (H := Unit) P T))).length = l.length := by
    refine Nat.le_antisymm ?_ ?_
    · have := @nodup_le Lit (fun a b => Classical.propDecidable (a = b)) ((es.toList.map (WideElems.rg P T (plainElem (H := Unit) P T))).map Prod.fst) (l.map (Lit.int .i64)) (List.pairwise_map.2 hap) (fun x hx => ?_)
      · simpa using this
      · obtain ⟨p, hp, rfl⟩ := List.mem_map.1 hx
        obtain ⟨v, hv⟩ := hkeys p hp
        obtain ⟨a, rfl, ha, hw1⟩ := Maps.keyOf_int_inv hT hv
        have h1 := (hf a hw1).1
        have h2 : Maps.has (DataW.map ((es.toList.map (WideElems.rg P T (plainElem (H := Unit) P T))).foldr DataW.insert [])) (Lit.int .i64 a) = true := by
          rw [Maps.has_eq, List.any_eq_true]
          exact ⟨p, hperm.mem_iff.2 hp, by rw [ha]; simp [Lit.sameKey]⟩
        rw [h2] at h1
        rw [ha]
        exact List.mem_map_of_mem ((hl a hw1).1 h1.symm)
    · have := @nodup_le Lit (fun a b => Classical.propDecidable (a = b)) (l.map (Lit.int .i64)) ((es.toList.map (WideElems.rg P T (plainElem (H := Unit) P T))).map Prod.fst) (List.pairwise_map.2 (hn.imp fun {a b} hab e => hab (by cases e; rfl))) (fun x hx => ?_)
      · simpa using this
      · obtain ⟨a, ha, rfl⟩ := List.mem_map.1 hx
        have h1 := (hf a (hw a ha)).1
        rw [(hl a (hw a ha)).2 ha, Maps.has_eq, List.any_eq_true] at h1
        obtain ⟨p, hp, he⟩ := h1
        have hp' := hperm.mem_iff.1 hp
        obtain ⟨v, hv⟩ := hkeys p hp'
        obtain ⟨a', rfl, ha', hw1⟩ := Maps.keyOf_int_inv hT hv
        rw [ha'] at he
        have : a' = a := by simpa [Lit.sameKey] using he
        subst this
        exact List.mem_map.2 ⟨p, hp', ha'⟩
  rw [← hlen, ← hperm.length_eq]
  rfl
end

section
variable {P : Program} {w : World} {ops : Array Oper} {rest : List Oper} {o : Oper} {a : Act} {Q : Exit → Act → World → Prop} {T t : TypeId} {b r n cnt : Nat} {f : Int → Option Int} {left : Int → Bool}
/-- 'range m'. -/
theorem wpList_range_imap (hg : o.guard = none) (m : Operand) (t : TypeId) (hop : o.op = Op.range t m) (ht : P.underlying t = some (.map T T)) (hT : P.underlying T = some (.int .i64)) (hm : a.eval m = .map (some b)) (h : IMap P T w b n f)
    (hK : ∀ w' c, IRng P T w' b w.heap.size f (fun k => (f k).isSome) c → Chg [] w w' → wpList P ops Q rest (a.put o.dst (.pointer (some ⟨w.heap.size, 0, none⟩))) w') :
    wpList P ops Q (o :: rest) a w := by
  refine wpList_plain hg fun K' hK' => ?_
  obtain ⟨w', c, hrun, r1, r2⟩ := h.range ht hT
  unfold Oper.wp
  simp [execOp, hop, hm, hrun, Result.andThen]
  exact hK' _ _ (hK w' c r1 r2)
/-- The step. -/
theorem wpList_next_irng (hg : o.guard = none) (it : Operand) (hop : o.op = Op.next it false) (hT : P.underlying T = some (.int .i64)) (hit : a.eval it = .pointer (some ⟨r, 0, none⟩)) (h : IRng P T w b r f left cnt)
    (hDone : (∀ k, (Lit.int .i64 k).wf = true → left k = false) → wpList P ops Q rest (a.put o.dst (.tuple #[.bool false])) w)
    (hMore : ∀ (k v : Int) (w' : World) (cnt' : Nat), (Lit.int .i64 k).wf = true → left k = true → f k = some v → IRng P T w' b r f (fun x => left x && !decide (x = k)) cnt' → cnt' < cnt → Chg [r] w w' →
      (Instr.entry (.pointer (some ⟨r, 0, none⟩))).run P w' = .ok (.tuple #[.int .i64 k, .int .i64 v]) w' → wpList P ops Q rest (a.put o.dst (.tuple #[.bool true, .int .i64 k, .int .i64 v])) w') :
    wpList P ops Q (o :: rest) a w := by
  refine wpList_plain hg fun K' hK' => ?_
  unfold Oper.wp
  rcases h.next hT o.type with ⟨h0, hl, hrun⟩ | ⟨k, v, w', cnt', h1, h2, h3, hrun, h4, h5, h6, h7⟩
  · simp [execOp, hop, hit, hrun, Result.andThen]
    exact hK' _ _ (hDone hl)
  · simp [execOp, hop, hit, hrun, Result.andThen]
    exact hK' _ _ (hMore k v w' cnt' h1 h2 h3 h4 h5 h6 h7)
end
end Go.Proofs.Ytgimcpnelogadaa.Mem
/- A function that holds ranges over functions: how it returns. No program in sight. -/
namespace Go.Proofs.Ytgimcpnelogadaa.Mem
open Go.RowKit
set_option linter.unusedVariables false
variable {P : Program} {fn : Func} {R : Ending → World → Prop} {tmps : Array Value} {w : World} {v : Value} {n : Nat}

theorem ret_marks0 (hr : (results fn tmps).run P w = .ok v w) (hR : R (.returned v) w) : bodyPostM Fence.wide n P fn R .ret { tmps := tmps, defers := [] } w := ⟨v, hr, hR⟩

theorem leaves_marks (hr : ∀ w', (results fn tmps).run P w' = .ok v w') : ∀ (Ds : List Nat) (w : World), Ds.Nodup → (∀ D ∈ Ds, w.heap[D]? = some (.deferred (some []))) → (∀ w', Chg Ds w w' → R (.returned v) w') →
    LeavesInM Fence.wide n P fn tmps R (Ds.map fun D => { target := .collected D, args := #[] }) .returning w
  | [], w, _, _, hR => ⟨v, hr w, hR w (Chg.refl _ _)⟩
  | D :: Ds, w, hn, hK, hR => by
    have hn' := List.nodup_cons.1 hn
    have hD := hK D (List.mem_cons_self ..)
    have hc : Chg [D] w (w.putObj D (.deferred none)) := Chg.of_grown (grownBy_putObj' w D _) (fun k hk => .inl (by cases hk; simp))
    refine ⟨by simp, .inl ⟨_, _, rfl, run_takeDeferred hD, leaves_marks hr Ds _ hn'.2 (fun E hE => ?_) (fun w' h => hR w' ((hc.mono (by simp)).trans (h.mono (fun x hx => List.mem_cons_of_mem _ hx))))⟩⟩
    have hne : E ≠ D := fun e => hn'.1 (e ▸ hE)
    rw [World.putObj_heap_other hne]
    exact hK E (List.mem_cons_of_mem _ hE)
/-- Behind one range. -/
theorem ret_marks1 {D : Nat} (hK : w.heap[D]? = some (.deferred (some []))) (hr : ∀ w', (results fn tmps).run P w' = .ok v w') (hR : ∀ w', Chg [D] w w' → R (.returned v) w') :
    bodyPostM Fence.wide n P fn R .ret { tmps := tmps, defers := [{ target := .collected D, args := #[] }] } w :=
  leaves_marks hr [D] w (by simp) (by simpa using hK) hR
/-- Behind two. -/
theorem ret_marks2 {D E : Nat} (hne : D ≠ E) (hK : w.heap[D]? = some (.deferred (some []))) (hL : w.heap[E]? = some (.deferred (some []))) (hr : ∀ w', (results fn tmps).run P w' = .ok v w') (hR : ∀ w', Chg [D, E] w w' → R (.returned v) w') :
    bodyPostM Fence.wide n P fn R .ret { tmps := tmps, defers := [{ target := .collected D, args := #[] }, { target := .collected E, args := #[] }] } w :=
  leaves_marks hr [D, E] w (by simpa using hne) (by simp [hK, hL]) hR
end Go.Proofs.Ytgimcpnelogadaa.Mem
/- Memory: append of a source that may be nil; make of a row of one-cell elements. No program in sight. -/
namespace Go.Proofs.Ytgimcpnelogadaa.Mem
open Go.RowKit
set_option linter.unusedVariables false
section
variable {P : Program} {w : World}
/-- append, whatever the source is. -/
theorem Row.append2 {t e : TypeId} {size bytes n m c : Nat} {z v : Value} {xs news : List Value} (h : Row w e size v n xs) (ht : P.underlying t = some (.slice e)) (E : Elem P e size bytes z)
    {ad : Option Addr} (hl : news.length = m * size) (hnil : ad = none → m = 0) (hnews : ∀ a, ad = some a → ∀ j u, news[j]? = some u → w.cell? (a.add j) = some u) (h1 : ∀ u ∈ news, u.oneCell' = true)
    (h63 : n + m ≤ 9223372036854775807) (hb : (n + m) * bytes ≤ 140737488355328) :
    ∃ v' w', (∀ ty consts, (builtin .append #[t, t] ty consts #[v, .slice ad m c]).run P w = .ok (.value v') w') ∧ Row w' e size v' (n + m) (xs ++ news) ∧ Chg v.ownBlock.toList w w' ∧
      (v'.ownBlock = v.ownBlock ∨ v'.ownBlock = some w.heap.size) := by
  cases ad with
  | some a => exact h.append ht E hl (hnews a rfl) h1 h63 hb
  | none =>
    obtain rfl := hnil rfl
    obtain ⟨i, hi, _⟩ := E.info
    obtain ⟨a, cp, rfl⟩ : ∃ a cp, v = .slice a n cp := by
      rcases h.cases with ⟨rfl, rfl, _⟩ | ⟨g, cap, rest, rfl, _⟩
      · exact ⟨_, _, rfl⟩
      · exact ⟨_, _, rfl⟩
    have hcp : n ≤ cp := by
      rcases h.cases with ⟨h1, rfl, _⟩ | ⟨g, cap, rest, h1, _, hn, _⟩
      · cases h1; exact Nat.le_refl _
      · cases h1; exact hn
    have : news = [] := List.eq_nil_of_length_eq_zero (by simpa using hl)
    subst this
    exact ⟨_, w, fun ty consts => run_append_zero w ht hi hcp consts, by simpa using h, Chg.refl _ _, .inl rfl⟩

theorem made_one (v : Value) (n : Nat) : (madeCells #[v] n).toList = List.replicate n v := by
  apply List.ext_getElem
  · simp [madeCells]
  · intro i h1 h2
    simp [madeCells, Nat.mod_one]
end
section
variable {P : Program} {w : World} {ops : Array Oper} {rest : List Oper} {o : Oper} {a : Act} {Q : Exit → Act → World → Prop}
/-- make([]T, n). -/
theorem wpList_make1 {t e : TypeId} {bytes : Nat} {z : Value} {kl kc : IntKind} (hg : o.guard = none) (l c : Operand) (hop : o.op = Op.makeSlice t l c) (ht : P.underlying t = some (.slice e)) (E : Elem P e 1 bytes z) (hz1 : z.cells = #[z]) (n : Nat)
    (hl : a.eval l = .int kl (n : Int)) (hc : a.eval c = .int kc (n : Int)) (hb : bytes * n ≤ 281474976710656) (h63 : n ≤ 9223372036854775807)
    (hK : ∀ w', Blk w' w.heap.size e (List.replicate n z) → Chg [] w w' → w'.heap.size = w.heap.size + 1 → wpList P ops Q rest (a.put o.dst (.slice (some ⟨w.heap.size, 0, none⟩) n n)) w') : wpList P ops Q (o :: rest) a w := by
  refine wpList_plain hg fun K' hK' => ?_
  obtain ⟨i, hi, hz, hs, hby⟩ := E.info
  have hb' : (i.bytes : Int) * (n : Int) ≤ 281474976710656 := by rw [hby, ← Int.natCast_mul]; omega
  have hr := run_make (P := P) w t e i z ht hi hz kl kc n n (by omega) (Int.le_refl _) hb' (by omega)
  simp only [Int.toNat_natCast] at hr
  unfold Oper.wp
  simp only [execOp, hop, hl, hc, hr, Sem.run_bind, Sem.run_pure, Result.andThen_ok]
  refine hK' _ _ (hK _ ?_ ((Chg.refl _ _).alloc _) (by simp))
  have := Blk.new w (madeCells z.cells (n * i.size)) e
  rw [hs, Nat.mul_one, hz1, made_one] at this
  rw [hs, Nat.mul_one, hz1]
  exact this
end
end Go.Proofs.Ytgimcpnelogadaa.Mem
/- A region's reading head, stepped cheaply: whether an operation is wanted is decided by reduction. No program in sight. -/
namespace Go.Proofs.Ytgimcpnelogadaa.Mem
open Go.RowKit
/-- wpStill, told so that nothing unfolds it. -/
structure StW (P : Program) (ops : List Oper) (w : World) (Q : Act → Prop) (l : List Oper) (a : Act) : Prop where
  out : wpStill P ops.toArray w Q l a
variable {P : Program} {ops rest : List Oper} {w : World} {Q : Act → Prop} {a : Act} {o : Oper}
theorem still_take (h : Region.wanted o (yielded ops.toArray a.tmps) = true) (k : ∀ K : Act → Prop, (∀ a, StW P ops w Q rest a → K a) → o.still P a w K) : StW P ops w Q (o :: rest) a := by
  refine ⟨?_⟩
  unfold wpStill
  rw [if_pos h]
  exact k _ fun _ h => h.out
theorem still_skip (h : Region.wanted o (yielded ops.toArray a.tmps) = false) (k : StW P ops w Q rest (a.put o.dst undef)) : StW P ops w Q (o :: rest) a := by
  refine ⟨?_⟩
  unfold wpStill
  rw [if_neg (by rw [h]; simp)]
  exact k.out
theorem still_end (k : Q a) : StW P ops w Q [] a := ⟨k⟩
/-- A builtin's call of two operands, inside a fence. -/
theorem wpListIn_builtin2 {F : Fence} {n : Nat} {P : Program} {w : World} {ops : Array Oper} {rest : List Oper} {o : Oper} {a : Act} {Q : Exit → Act → World → Prop} (hgd : o.guard = none) (b : Builtin) (s x : Operand) (ts : Array TypeId)
    (ho : o.op = .call { callee := .builtin b, args := #[s, x], argTypes := ts }) (vs vx : Value) (hs : a.eval s = vs) (hx : a.eval x = vx) (v' : Value) (w' : World)
    (hr : ∀ consts, (builtin b ts o.type consts #[vs, vx]).run P w = .ok (.value v') w') (h : wpListIn F n P ops Q rest (a.put o.dst v') w') : wpListIn F n P ops Q (o :: rest) a w := by
  refine wpListIn_plain hgd fun K hK' => ?_
  unfold Oper.wpIn
  refine ⟨?_, ?_⟩
  · simp [Oper.about, ho, resolve, Target.leads, Sem.run_pure]
  · rw [Oper.semAt_plain F _ _ (by rw [ho]; intro c hc'; cases hc')]
    simp only [execOp, ho, resolve, invoke, Sem.run_bind, Sem.run_pure, Result.andThen_ok, List.map_toArray, List.map_cons, List.map_nil, hs, hx, hr]
    exact hK' _ _ h
end Go.Proofs.Ytgimcpnelogadaa.Mem
/- Memory: results that stand in cells, behind ranges over functions. No program in sight. -/
namespace Go.Proofs.Ytgimcpnelogadaa.Mem
open Go.RowKit
set_option linter.unusedVariables false
variable {P : Program} {fn : Func} {R : Ending → World → Prop} {tmps : Array Value} {w : World} {v u : Value} {n : Nat}

theorem leaves_marksC : ∀ (Ds : List Nat) (w : World), Ds.Nodup → (∀ D ∈ Ds, w.heap[D]? = some (.deferred (some []))) → (∀ w', Chg Ds w w' → (results fn tmps).run P w' = .ok v w') → (∀ w', Chg Ds w w' → R (.returned v) w') →
    LeavesInM Fence.wide n P fn tmps R (Ds.map fun D => { target := .collected D, args := #[] }) .returning w
  | [], w, _, _, hr, hR => ⟨v, hr w (Chg.refl _ _), hR w (Chg.refl _ _)⟩
  | D :: Ds, w, hn, hK, hr, hR => by
    have hn' := List.nodup_cons.1 hn
    have hD := hK D (List.mem_cons_self ..)
    have hc : Chg [D] w (w.putObj D (.deferred none)) := Chg.of_grown (grownBy_putObj' w D _) (fun k hk => .inl (by cases hk; simp))
    have hcc : ∀ w', Chg Ds (w.putObj D (.deferred none)) w' → Chg (D :: Ds) w w' := fun w' h => (hc.mono (by simp)).trans (h.mono (fun x hx => List.mem_cons_of_mem _ hx))
    refine ⟨by simp, .inl ⟨_, _, rfl, run_takeDeferred hD, leaves_marksC Ds _ hn'.2 (fun E hE => ?_) (fun w' h => hr w' (hcc w' h)) (fun w' h => hR w' (hcc w' h))⟩⟩
    have hne : E ≠ D := fun e => hn'.1 (e ▸ hE)
    rw [World.putObj_heap_other hne]
    exact hK E (List.mem_cons_of_mem _ hE)
/-- Behind one range, where the results stand in cells. -/
theorem ret_marks1C {D : Nat} (hK : w.heap[D]? = some (.deferred (some []))) (hr : ∀ w', Chg [D] w w' → (results fn tmps).run P w' = .ok v w') (hR : ∀ w', Chg [D] w w' → R (.returned v) w') :
    bodyPostM Fence.wide n P fn R .ret { tmps := tmps, defers := [{ target := .collected D, args := #[] }] } w :=
  leaves_marksC [D] w (by simp) (by simpa using hK) hr hR

theorem run_loadVar1 {t : TypeId} {a : Addr} (hg : (isAgg t).run P w = .ok false w) (h : w.cell? a = some v) : (loadVar t a).run P w = .ok v w := by
  simp [loadVar, hg, h]
theorem results_cell1 {p : Tmp} {s : TypeId} {a : Addr} (h : fn.results = #[.cell p s]) (hp : tmps.getD p undef = .pointer (some a)) (hs : (isAgg s).run P w = .ok false w) (h1 : w.cell? a = some v) :
    (results fn tmps).run P w = .ok v w := by
  have hp' : tmps[p]?.getD undef = .pointer (some a) := by simpa using hp
  simp [results, h, hp', asAddr, run_loadVar1 hs h1]
theorem results_cell2 {p q : Tmp} {s t : TypeId} {a b : Addr} (h : fn.results = #[.cell p s, .cell q t]) (hp : tmps.getD p undef = .pointer (some a)) (hq : tmps.getD q undef = .pointer (some b))
    (hs : (isAgg s).run P w = .ok false w) (ht : (isAgg t).run P w = .ok false w) (h1 : w.cell? a = some v) (h2 : w.cell? b = some u) :
    (results fn tmps).run P w = .ok (.tuple #[v, u]) w := by
  have hp' : tmps[p]?.getD undef = .pointer (some a) := by simpa using hp
  have hq' : tmps[q]?.getD undef = .pointer (some b) := by simpa using hq
  simp [results, h, hp', hq', asAddr, run_loadVar1 hs h1, run_loadVar1 ht h2]
end Go.Proofs.Ytgimcpnelogadaa.Mem
/- Chapter 6, plain: cells; what is reached from words, and how it is marked. No program in sight. -/
namespace Go.Proofs.Ytgimcpnelogadaa.Hp
open Go.Proofs.Ytgimcpnelogadaa.Wd
set_option linter.unusedVariables false

/-- What a handle is of. bytes: those of a buffer, which lie in the store under ext. -/
structure Cel where
  kind : Int
  view : Bool
  int : Int
  text : ByteArray
  bytes : List UInt8
  words : List Nat
  base : Nat
  from_ : Int
  len : Int
  ext : Nat
  need : Nat

abbrev Cells := List (Option Cel)
/-- Which cell a word leads to. -/
def Cells.at_ (cs : Cells) (w : Nat) : Option Nat := match hdl w with
  | some n => if (cs[n]?.getD none).isSome then some n else none
  | none => none
/-- The words that a cell has. -/
def Cel.refs (c : Cel) : List Nat := c.words ++ if c.view then [c.base] else []
def Cells.need (cs : Cells) (n : Nat) : Nat := match cs[n]?.getD none with | some c => c.need | none => 0
def Cells.refs (cs : Cells) (n : Nat) : List Nat := match cs[n]?.getD none with | some c => c.refs | none => []
theorem at_lt {cs : Cells} {w n : Nat} (h : cs.at_ w = some n) : n < cs.length := by
  unfold Cells.at_ at h
  split at h
  · split at h
    · rename_i h1
      cases h
      by_cases c : n < cs.length
      · exact c
      · rw [List.getElem?_eq_none (by omega)] at h1; simp at h1
    · cases h
  · cases h

/-- What is reached from words. -/
inductive Rch (cs : Cells) (R : List Nat) : Nat → Prop where
  | root {w n : Nat} (hw : w ∈ R) (h : cs.at_ w = some n) : Rch cs R n
  | next {m w n : Nat} (hm : Rch cs R m) (hw : w ∈ cs.refs m) (h : cs.at_ w = some n) : Rch cs R n

theorem Rch.mono {cs : Cells} {R S : List Nat} {n : Nat} (h : Rch cs R n) (hs : ∀ w ∈ R, w ∈ S) : Rch cs S n := by
  induction h with
  | root hw h => exact .root (hs _ hw) h
  | next _ hw h ih => exact .next ih hw h
theorem Rch.lt {cs : Cells} {R : List Nat} {n : Nat} (h : Rch cs R n) : n < cs.length := by
  cases h with
  | root _ h => exact at_lt h
  | next _ _ h => exact at_lt h

/-- The needs of what is marked. -/
def unitsOf (cs : Cells) (M : List Bool) : Nat := ((List.range cs.length).map fun n => if M.getD n false then cs.need n else 0).sum

/-- A walk's record: what is marked, the units, what is to be looked at. -/
structure Mk where
  marks : List Bool
  units : Nat
  todo : List Nat
/-- One word is marked. -/
def Mk.step (cs : Cells) (s : Mk) (w : Nat) : Mk := match cs.at_ w with
  | some n => if s.marks.getD n false then s else ⟨s.marks.set n true, s.units + cs.need n, s.todo ++ [n]⟩
  | none => s
def Mk.list (cs : Cells) (s : Mk) (l : List Nat) : Mk := l.foldl (Mk.step cs) s

/-- What holds of the record: D: the words that have been marked; E: the cells that are being looked at. -/
structure MkOk (cs : Cells) (R E D : List Nat) (s : Mk) : Prop where
  len : s.marks.length = cs.length
  only : ∀ n, s.marks.getD n false = true → Rch cs R n
  done : ∀ w ∈ D, ∀ n, cs.at_ w = some n → s.marks.getD n false = true
  next : ∀ m, s.marks.getD m false = true → m ∈ s.todo ∨ m ∈ E ∨ ∀ w ∈ cs.refs m, ∀ n, cs.at_ w = some n → s.marks.getD n false = true
  todo : ∀ n ∈ s.todo, s.marks.getD n false = true
  units : s.units = unitsOf cs s.marks

theorem getD_set (l : List Bool) (n m : Nat) (b : Bool) : (l.set n b).getD m false = if n = m ∧ n < l.length then b else l.getD m false := by
  simp only [List.getD_eq_getElem?_getD, List.getElem?_set]
  by_cases h : n = m
  · subst h
    by_cases c : n < l.length
    · simp [c]
    · simp [c]
  · simp [h]
theorem sum_bump (f : Nat → Nat) {n : Nat} (d : Nat) : ∀ k, n < k → ((List.range k).map fun i => if i = n then f i + d else f i).sum = ((List.range k).map f).sum + d
  | 0, h => by omega
  | k + 1, h => by
    rw [List.range_succ, List.map_append, List.map_append, List.sum_append, List.sum_append]
    simp only [List.map_cons, List.map_nil, List.sum_cons, List.sum_nil]
    by_cases c : k = n
    · subst c
      have : ((List.range k).map fun i => if i = k then f i + d else f i) = (List.range k).map f := List.map_congr_left fun i hi => by rw [if_neg (by have := List.mem_range.1 hi; omega)]
      rw [this, if_pos rfl]
      omega
    · rw [sum_bump f d k (by omega), if_neg c]
      omega
theorem units_set {cs : Cells} {M : List Bool} {n : Nat} (hl : M.length = cs.length) (hn : n < cs.length) (h0 : M.getD n false = false) : unitsOf cs (M.set n true) = unitsOf cs M + cs.need n := by
  unfold unitsOf
  rw [← sum_bump _ _ _ hn]
  congr 1
  refine List.map_congr_left fun i hi => ?_
  by_cases c : n = i
  · subst c
    have e : (M.set n true).getD n false = true := by rw [getD_set, if_pos ⟨rfl, by omega⟩]
    rw [e, h0]
    simp
  · have e : (M.set n true).getD i false = M.getD i false := by rw [getD_set, if_neg (by simp [c])]
    have d : ¬ i = n := fun e => c e.symm
    simp only [e, if_neg d]
theorem Mk.step_marks {cs : Cells} {s : Mk} (w m : Nat) (h : s.marks.getD m false = true) : (s.step cs w).marks.getD m false = true := by
  unfold Mk.step
  split
  · split
    · exact h
    · show (s.marks.set _ true).getD m false = true
      rw [getD_set]
      split <;> simp_all
  · exact h
theorem MkOk.step {cs : Cells} {R E D : List Nat} {s : Mk} (h : MkOk cs R E D s) {w : Nat} (hw : ∀ n, cs.at_ w = some n → Rch cs R n) : MkOk cs R E (D ++ [w]) (s.step cs w) := by
  have keep : ∀ m, s.marks.getD m false = true → (s.step cs w).marks.getD m false = true := fun m hm => Mk.step_marks w m hm
  have key : ∀ n, cs.at_ w = some n → (s.step cs w).marks.getD n false = true := fun n hn => by
    unfold Mk.step
    rw [hn]
    simp only
    split
    · assumption
    · show (s.marks.set n true).getD n false = true
      rw [getD_set, if_pos ⟨rfl, by rw [h.len]; exact at_lt hn⟩]
  have done : ∀ v ∈ D ++ [w], ∀ n, cs.at_ v = some n → (s.step cs w).marks.getD n false = true := fun v hv n hn => by
    rcases List.mem_append.1 hv with hv | hv
    · exact keep n (h.done v hv n hn)
    · simp at hv; subst hv; exact key n hn
  cases e : cs.at_ w with
  | none =>
    have : s.step cs w = s := by unfold Mk.step; rw [e]
    rw [this] at done ⊢
    exact ⟨h.len, h.only, done, h.next, h.todo, h.units⟩
  | some n =>
    by_cases c : s.marks.getD n false = true
    · have : s.step cs w = s := by unfold Mk.step; rw [e]; simp only; rw [if_pos c]
      rw [this] at done ⊢
      exact ⟨h.len, h.only, done, h.next, h.todo, h.units⟩
    · have hs : s.step cs w = ⟨s.marks.set n true, s.units + cs.need n, s.todo ++ [n]⟩ := by unfold Mk.step; rw [e]; simp only; rw [if_neg c]
      rw [hs] at done keep ⊢
      have hlt := at_lt e
      have hn : (s.marks.set n true).getD n false = true := by rw [getD_set, if_pos ⟨rfl, by rw [h.len]; exact hlt⟩]
      refine ⟨by simp [h.len], fun m hm => ?_, done, fun m hm => ?_, fun m hm => ?_, ?_⟩
      · simp only at hm
        rw [getD_set] at hm
        split at hm
        · rename_i hc; exact hc.1 ▸ hw n e
        · exact h.only m hm
      · simp only at hm
        by_cases d : n = m
        · left; simp [d]
        · rw [getD_set, if_neg (by simp [d])] at hm
          rcases h.next m hm with h1 | h1 | h1
          · left; simp [h1]
          · exact .inr (.inl h1)
          · right; right; intro v hv k hk; exact keep k (h1 v hv k hk)
      · rcases List.mem_append.1 hm with hm | hm
        · exact keep m (h.todo m hm)
        · simp at hm; subst hm; exact hn
      · show s.units + cs.need n = unitsOf cs (s.marks.set n true)
        rw [units_set h.len hlt (by simpa using c), h.units]
theorem MkOk.list {cs : Cells} {R E : List Nat} : ∀ (l D : List Nat) (s : Mk), MkOk cs R E D s → (∀ w ∈ l, ∀ n, cs.at_ w = some n → Rch cs R n) → MkOk cs R E (D ++ l) (s.list cs l)
  | [], D, s, h, _ => by simpa [Mk.list] using h
  | w :: l, D, s, h, hw => by
    have := MkOk.list l (D ++ [w]) (s.step cs w) (h.step (hw w (List.mem_cons_self ..))) (fun v hv => hw v (List.mem_cons_of_mem _ hv))
    simpa [Mk.list] using this
theorem MkOk.start (cs : Cells) (R : List Nat) : MkOk cs R [] [] ⟨List.replicate cs.length false, 0, []⟩ := by
  have h0 : ∀ n, (List.replicate cs.length false).getD n false = false := fun n => by
    rw [List.getD_eq_getElem?_getD, List.getElem?_replicate]; split <;> rfl
  refine ⟨by simp, fun n hn => ?_, by simp, fun n hn => ?_, by simp, ?_⟩
  · simp only at hn; rw [h0] at hn; cases hn
  · simp only at hn; rw [h0] at hn; cases hn
  · show 0 = unitsOf cs _
    unfold unitsOf
    have : ((List.range cs.length).map fun n => if (List.replicate cs.length false).getD n false then cs.need n else 0) = (List.range cs.length).map fun _ => 0 := List.map_congr_left fun i _ => by rw [h0]; rfl
    rw [this]
    induction List.range cs.length with
    | nil => rfl
    | cons a l ih => simpa using ih
/-- The last of what is to be looked at is taken. -/
theorem MkOk.pop {cs : Cells} {R E D t : List Nat} {m U : Nat} {M : List Bool} (h : MkOk cs R E D ⟨M, U, t ++ [m]⟩) : MkOk cs R (m :: E) D ⟨M, U, t⟩ ∧ Rch cs R m :=
  ⟨⟨h.len, h.only, h.done, fun k hk => by
    rcases h.next k hk with h1 | h1 | h1
    · rcases List.mem_append.1 h1 with h1 | h1
      · exact .inl h1
      · simp at h1; exact .inr (.inl (by simp [h1]))
    · exact .inr (.inl (List.mem_cons_of_mem _ h1))
    · exact .inr (.inr h1), fun k hk => h.todo k (List.mem_append_left _ hk), h.units⟩, h.only m (h.todo m (by simp))⟩
/-- It has been looked at. -/
theorem MkOk.settle {cs : Cells} {R E D : List Nat} {m : Nat} {s : Mk} (h : MkOk cs R (m :: E) D s) (hm : ∀ w ∈ cs.refs m, w ∈ D) : MkOk cs R E D s :=
  ⟨h.len, h.only, h.done, fun k hk => by
    rcases h.next k hk with h1 | h1 | h1
    · exact .inl h1
    · rcases List.mem_cons.1 h1 with rfl | h1
      · exact .inr (.inr fun w hw n hn => h.done w (hm w hw) n hn)
      · exact .inr (.inl h1)
    · exact .inr (.inr h1), h.todo, h.units⟩
/-- At the end the marked are those that are reached. -/
theorem MkOk.ends {cs : Cells} {R D : List Nat} {M : List Bool} {U : Nat} (h : MkOk cs R [] D ⟨M, U, []⟩) (hR : ∀ w ∈ R, w ∈ D) : ∀ n, M.getD n false = true ↔ Rch cs R n := by
  refine fun n => ⟨h.only n, fun hn => ?_⟩
  induction hn with
  | root hw e => exact h.done _ (hR _ hw) _ e
  | next _ hw e ih =>
    rcases h.next _ ih with h1 | h1 | h1
    · cases h1
    · cases h1
    · exact h1 _ hw _ e
/-- How much there is to do. -/
def Mk.left (s : Mk) : Nat := 2 * (s.marks.filter fun b => !b).length + s.todo.length
theorem filter_set : ∀ (M : List Bool) (n : Nat), n < M.length → M.getD n false = false → ((M.set n true).filter fun b => !b).length + 1 = (M.filter fun b => !b).length
  | [], _, h, _ => by simp at h
  | b :: M, 0, _, h => by
    simp only [List.getD_cons_zero] at h
    subst h
    simp
  | b :: M, n + 1, hl, h => by
    have ih := filter_set M n (by simpa using hl) (by simpa using h)
    cases b <;> simp <;> omega
theorem Mk.step_left {cs : Cells} {s : Mk} (w : Nat) (hl : s.marks.length = cs.length) : (s.step cs w).left ≤ s.left := by
  unfold Mk.step
  split
  · rename_i n e
    split
    · exact Nat.le_refl _
    · rename_i c
      have := filter_set s.marks n (by have := at_lt e; omega) (by simpa using c)
      simp only [Mk.left, List.length_append, List.length_cons, List.length_nil]
      omega
  · exact Nat.le_refl _
end Go.Proofs.Ytgimcpnelogadaa.Hp
/- Chapter 6: a heap in memory; width, Need's rounding. -/
namespace Go.Proofs.Ytgimcpnelogadaa.Hp
open Go.RowKit Go.Proofs.Ytgimcpnelogadaa.Mem Go.Proofs.Ytgimcpnelogadaa.Sto Go.Proofs.Ytgimcpnelogadaa.Wd
set_option linter.unusedVariables false
set_option linter.unusedSimpArgs false

/-- An element of a row. -/
theorem row_get1 {w : World} {t : TypeId} {n : Nat} {v : Value} {xs : List Value} (h : Row w t 1 v n xs) {i : Nat} {u : Value} (hi : xs[i]? = some u) : ∃ g cap, v = .slice (some ⟨g, 0, none⟩) n cap ∧ w.cell? ⟨g, i, none⟩ = some u := by
  rcases h.cases with ⟨h1, rfl, rfl⟩ | ⟨g, cap, rest, h1, hb, _⟩
  · simp at hi
  · exact ⟨g, cap, h1, hb.cellAt (List.getElem?_append_left_some (b := rest) hi)⟩
/-- How many bytes an element of a buffer has. -/
def widthN (k : Int) : Nat := if k = 5 then 8 else if k = 6 then 4 else if k = 7 then 2 else if k = 8 then 1 else 0
/-- Is a cell a buffer that is no view? -/
def Cel.buf (c : Cel) : Bool := !c.view && decide (0 < widthN c.kind)
/-- A cell in memory: its block; the slice of its words. -/
structure MC where
  c : Cel
  blk : Nat
  wv : Value
def u64V (l : List Nat) : List Value := l.map fun (n : Nat) => Value.int .u64 (n : Int)
def celV (c : Cel) (wv : Value) : List Value := [.int .i64 c.kind, .bool c.view, .int .i64 c.int, .string c.text, .slice none 0 0, wv, .int .u64 (c.base : Int), .int .i64 c.from_, .int .i64 c.len, .int .i64 (c.ext : Int), .int .i64 (c.need : Int)]
def ptrV : Option MC → Value
  | none => .pointer none
  | some m => .pointer (some ⟨m.blk, 0, none⟩)
/-- The extents of the buffers. -/
def bufs (M : List (Option MC)) : List (Nat × List UInt8) := M.filterMap fun o => o.bind fun m => if m.c.buf then some (m.c.ext, m.c.bytes) else none
def blks (M : List (Option MC)) : List Nat := M.filterMap fun o => o.map MC.blk
def owns (M : List (Option MC)) : List Nat := M.filterMap fun o => o.bind fun m => m.wv.ownBlock
def celsOf (M : List (Option MC)) : Cells := M.map fun o => o.map MC.c
def hfoot (p : Nat) (cv : Value) (M : List (Option MC)) (F : List Nat) : List Nat := p :: (cv.ownBlock.toList ++ (blks M ++ (owns M ++ F)))
/-- How many units a cell takes, by its lengths. -/
def needN (view : Bool) (kind : Int) (tl bl wl : Nat) : Nat := if view then 1 else if kind = 2 then 2 else if kind = 4 then 1 + (tl + 7) / 8 else if kind = 9 then 1 + wl else if 0 < widthN kind then 1 + (bl + 7) / 8 else 1
def Cel.needs (c : Cel) : Nat := needN c.view c.kind c.text.size c.bytes.length c.words.length
/-- The cells of an argument: c, with its slices. -/
def argV (c : Cel) (bv wv : Value) : Value := .agg #[.int .i64 c.kind, .bool c.view, .int .i64 c.int, .string c.text, bv, wv, .int .u64 (c.base : Int), .int .i64 c.from_, .int .i64 c.len]

theorem widthN_le (k : Int) : widthN k ≤ 8 := by unfold widthN; repeat (first | omega | split)
theorem width_calls (k : Int) (w : World) : Calls Try.prog 80 #[.int .i64 k] w fun e w' => e = .returned (.int .i64 (widthN k : Nat)) ∧ w = w' := by
  by_cases c5 : k = 5
  · subst c5
    go_enter Try.func80, Try.ntmps80
    go_wp2
    go_ret
    exact ⟨rfl, rfl⟩
  by_cases c6 : k = 6
  · subst c6
    go_enter Try.func80, Try.ntmps80
    go_wp2
    go_ret
    exact ⟨rfl, rfl⟩
  by_cases c7 : k = 7
  · subst c7
    go_enter Try.func80, Try.ntmps80
    go_wp2
    go_ret
    exact ⟨rfl, rfl⟩
  by_cases c8 : k = 8
  · subst c8
    go_enter Try.func80, Try.ntmps80
    go_wp2
    go_ret
    exact ⟨rfl, rfl⟩
  have e5 : (k == 5) = false := by simpa using c5
  have e6 : (k == 6) = false := by simpa using c6
  have e7 : (k == 7) = false := by simpa using c7
  have e8 : (k == 8) = false := by simpa using c8
  have e : widthN k = 0 := by unfold widthN; rw [if_neg c5, if_neg c6, if_neg c7, if_neg c8]
  rw [e]
  clear c5 c6 c7 c8 e
  go_enter Try.func80, Try.ntmps80
  go_wp2
  go_ret
  exact ⟨rfl, rfl⟩
theorem eights_calls (n : Nat) (hn : n ≤ 4611686018427387904) (w : World) : Calls Try.prog 79 #[.int .i64 (n : Int)] w fun e w' => e = .returned (.int .i64 (1 + (n + 7) / 8 : Nat)) ∧ w = w' := by
  have h1 : IntKind.i64.wrap ((n : Int) + 7) = (n : Int) + 7 := IntWalk.i64_in _ (by omega)
  have h2 : IntKind.i64.wrap (((n : Int) + 7) / 8) = ((n : Int) + 7) / 8 := IntWalk.i64_in _ (by omega)
  have h3 : IntKind.i64.wrap (1 + ((n : Int) + 7) / 8) = ((1 + (n + 7) / 8 : Nat) : Int) := by rw [IntWalk.i64_in _ (by omega)]; omega
  go_enter Try.func79, Try.ntmps79
  go_wp2
  go_ret
  exact ⟨by go_num, rfl⟩
set_option maxHeartbeats 4000000 in
theorem need_calls (k : Int) (view : Bool) (i : Int) (tx : ByteArray) (a1 a2 : Option Addr) (n1 c1 n2 c2 : Nat) (b f l : Int) (h0 : tx.size ≤ 4611686018427387904) (h1 : n1 ≤ 4611686018427387904) (h2 : n2 ≤ 4611686018427387904) (w : World) :
    Calls Try.prog 36 #[.agg #[.int .i64 k, .bool view, .int .i64 i, .string tx, .slice a1 n1 c1, .slice a2 n2 c2, .int .u64 b, .int .i64 f, .int .i64 l]] w fun e w' => e = .returned (.int .i64 (needN view k tx.size n1 n2 : Nat)) ∧ Chg [] w w' := by
  have CE := Mem.Aside.mk eights_calls
  have CW := Mem.Aside.mk (width_calls k)
  cases view with
  | true =>
    go_enter Try.func36, Try.ntmps36
    go_wp2
    go_ret
    exact ⟨rfl, (Chg.refl _ _).alloc _⟩
  | false =>
    by_cases k2 : k = 2
    · subst k2
      go_enter Try.func36, Try.ntmps36
      go_wp2
      go_ret
      exact ⟨rfl, (Chg.refl _ _).alloc _⟩
    have e2 : (k == 2) = false := by simpa using k2
    by_cases k4 : k = 4
    · subst k4
      go_enter Try.func36, Try.ntmps36
      go_wp2_with (go_at_call 79; (with_reducible refine (CE.out tx.size h0 _).mono ?_); rintro e w' ⟨rfl, rfl⟩)
      go_ret
      exact ⟨rfl, (Chg.refl _ _).alloc _⟩
    have e4 : (k == 4) = false := by simpa using k4
    by_cases k9 : k = 9
    · subst k9
      have hw : IntKind.i64.wrap (1 + (n2 : Int)) = ((1 + n2 : Nat) : Int) := by rw [IntWalk.i64_in _ (by omega)]; omega
      go_enter Try.func36, Try.ntmps36
      go_wp2
      go_ret
      exact ⟨by go_num, (Chg.refl _ _).alloc _⟩
    have e9 : (k == 9) = false := by simpa using k9
    have he : needN false k tx.size n1 n2 = if 0 < widthN k then 1 + (n1 + 7) / 8 else 1 := by
      unfold needN
      rw [if_neg (by simp), if_neg k2, if_neg k4, if_neg k9]
    rw [he]
    obtain ⟨W, hW⟩ : ∃ W, W = widthN k := ⟨_, rfl⟩
    rw [← hW] at CW ⊢
    clear k2 k4 k9 he hW
    by_cases z : 0 < W
    · have z1 : decide ((0 : Int) < (W : Int)) = true := decide_eq_true (by omega)
      have z2 : (0 : Int) < (W : Int) := by omega
      rw [if_pos z]
      clear z
      go_enter Try.func36, Try.ntmps36
      go_wp2_with (first
        | (go_at_call 80; (with_reducible refine (CW.out _).mono ?_); rintro e w' ⟨rfl, rfl⟩)
        | (go_at_call 79; (with_reducible refine (CE.out n1 h1 _).mono ?_); rintro e w' ⟨rfl, rfl⟩))
      go_ret
      exact ⟨rfl, (Chg.refl _ _).alloc _⟩
    · have z1 : decide ((0 : Int) < (W : Int)) = false := decide_eq_false (by omega)
      have z2 : ¬ (0 : Int) < (W : Int) := by omega
      rw [if_neg z]
      clear z
      go_enter Try.func36, Try.ntmps36
      go_wp2_with (go_at_call 80; (with_reducible refine (CW.out _).mono ?_); rintro e w' ⟨rfl, rfl⟩)
      go_ret
      exact ⟨rfl, (Chg.refl _ _).alloc _⟩

/-- At block p there is a heap. -/
structure HeapAt (w : World) (p units used : Nat) (M : List (Option MC)) (cv : Value) (rp : Nat) (F : List Nat) (most : Nat) : Prop where
  top : Blk w p 130 [.int .i64 (units : Int), .int .i64 (used : Int), cv, .pointer (some ⟨rp, 0, none⟩)]
  row : Row w 134 1 cv M.length (M.map ptrV)
  cells : ∀ m, some m ∈ M → Blk w m.blk 136 (celV m.c m.wv)
  words : ∀ m, some m ∈ M → Row w 22 1 m.wv m.c.words.length (u64V m.c.words)
  raw : Holds w rp F (bufs M) most
  nblk : (blks M).Nodup
  nown : (owns M).Nodup
  apart : ∀ k ∈ F, k ∉ p :: (cv.ownBlock.toList ++ (blks M ++ owns M))
  small : units ≤ 1048576 ∧ used ≤ units ∧ M.length ≤ units ∧ most ≤ 100000000 * 1048576 

end Go.Proofs.Ytgimcpnelogadaa.Hp
/- Chapter 6: a heap in memory: its laws; find, sound. -/
namespace Go.Proofs.Ytgimcpnelogadaa.Hp
open Go.RowKit Go.Proofs.Ytgimcpnelogadaa.Mem Go.Proofs.Ytgimcpnelogadaa.Sto Go.Proofs.Ytgimcpnelogadaa.Wd
set_option linter.unusedVariables false
set_option linter.unusedSimpArgs false

section
variable {w w' : World} {p units used rp most : Nat} {M : List (Option MC)} {cv : Value} {F G : List Nat}
theorem mem_hfoot {k : Nat} : k ∈ hfoot p cv M F ↔ k = p ∨ cv.ownBlock = some k ∨ (∃ m, some m ∈ M ∧ m.blk = k) ∨ (∃ m, some m ∈ M ∧ m.wv.ownBlock = some k) ∨ k ∈ F := by
  simp only [hfoot, List.mem_cons, List.mem_append, Option.mem_toList, blks, owns, List.mem_filterMap, Option.map_eq_some_iff, Option.bind_eq_some_iff]
  refine or_congr Iff.rfl (or_congr Iff.rfl (or_congr ?_ (or_congr ?_ Iff.rfl)))
  · constructor
    · rintro ⟨_, h, m, rfl, e⟩; exact ⟨m, h, e⟩
    · rintro ⟨m, h, e⟩; exact ⟨_, h, m, rfl, e⟩
  · constructor
    · rintro ⟨_, h, m, rfl, e⟩; exact ⟨m, h, e⟩
    · rintro ⟨m, h, e⟩; exact ⟨_, h, m, rfl, e⟩
theorem HeapAt.lt (h : HeapAt w p units used M cv rp F most) : ∀ k ∈ hfoot p cv M F, k < w.heap.size := by
  intro k hk
  rcases mem_hfoot.1 hk with rfl | hk | ⟨m, hm, rfl⟩ | ⟨m, hm, hk⟩ | hk
  · exact h.top.lt
  · exact h.row.lt hk
  · exact (h.cells m hm).lt
  · exact (h.words m hm).lt hk
  · exact h.raw.lt k hk
theorem HeapAt.chg (h : HeapAt w p units used M cv rp F most) (hc : Chg G w w') (hG : ∀ k ∈ hfoot p cv M F, k ∉ G) : HeapAt w' p units used M cv rp F most :=
  ⟨h.top.chg hc (hG p (mem_hfoot.2 (.inl rfl))), h.row.chg hc fun k hk => hG k (mem_hfoot.2 (.inr (.inl hk))), fun m hm => (h.cells m hm).chg hc (hG _ (mem_hfoot.2 (.inr (.inr (.inl ⟨m, hm, rfl⟩))))),
    fun m hm => (h.words m hm).chg hc fun k hk => hG k (mem_hfoot.2 (.inr (.inr (.inr (.inl ⟨m, hm, hk⟩))))), h.raw.chg hc fun k hk => hG k (mem_hfoot.2 (.inr (.inr (.inr (.inr hk))))), h.nblk, h.nown, h.apart, h.small⟩

/-- The cell of a word, in memory. -/
def atM (M : List (Option MC)) (x : Nat) : Option MC := (hdl x).bind fun n => M[n]?.getD none
theorem atM_at {x n : Nat} : (celsOf M).at_ x = some n ↔ hdl x = some n ∧ ∃ m, M[n]? = some (some m) := by
  unfold Cells.at_ celsOf
  cases hx : hdl x with
  | none => simp
  | some k =>
    simp only [List.getElem?_map]
    cases hk : M[k]? with
    | none =>
      simp only [Option.map_none, Option.getD_none, Option.isSome_none, Bool.false_eq_true, ite_false]
      constructor
      · intro h; cases h
      · rintro ⟨h, m, hm⟩; cases h; rw [hk] at hm; cases hm
    | some o =>
      cases o with
      | none =>
        simp only [Option.map_some, Option.map_none, Option.getD_some, Option.isSome_none, Bool.false_eq_true, ite_false]
        constructor
        · intro h; cases h
        · rintro ⟨h, m, hm⟩; cases h; rw [hk] at hm; cases hm
      | some m =>
        simp only [Option.map_some, Option.getD_some, Option.isSome_some, ite_true]
        constructor
        · intro h; cases h; exact ⟨rfl, m, hk⟩
        · rintro ⟨h, _⟩; cases h; rfl
theorem atM_some {x : Nat} {m : MC} (h : atM M x = some m) : ∃ n, hdl x = some n ∧ M[n]? = some (some m) := by
  unfold atM at h
  obtain ⟨n, hn, e⟩ := Option.bind_eq_some_iff.1 h
  cases hk : M[n]? with
  | none => rw [hk] at e; cases e
  | some o => rw [hk] at e; exact ⟨n, hn, by simp only [Option.getD_some] at e; rw [hk, e]⟩
theorem atM_mem {x : Nat} {m : MC} (h : atM M x = some m) : some m ∈ M := by
  obtain ⟨n, _, h⟩ := atM_some h
  exact List.mem_of_getElem? h

set_option maxHeartbeats 4000000 in
theorem find_calls (h : HeapAt w p units used M cv rp F most) (x : Nat) (hx : x < 18446744073709551616) :
    Calls Try.prog 88 #[.pointer (some ⟨p, 0, none⟩), .int .u64 (x : Int)] w fun e w' => e = .returned (.pointer ((atM M x).map fun m => ⟨m.blk, 0, none⟩)) ∧ w = w' := by
  have h2 := h.top.cellAt (i := 2) rfl
  have hsm := h.small
  obtain ⟨a, c, rfl⟩ := Row_form h.row
  cases hh : hdl x with
  | none =>
    have e : atM M x = none := by unfold atM; rw [hh]; rfl
    have CT := Mem.Aside.mk (toHandle_none hx hh)
    rw [e]
    clear e h hsm hh
    go_enter Try.func88, Try.ntmps88
    go_wp2_with (go_at_call 121; (with_reducible refine (CT.out _).mono ?_); rintro e w' ⟨rfl, rfl⟩)
    go_ret
    exact ⟨rfl, rfl⟩
  | some n =>
    have CT := Mem.Aside.mk (toHandle_some hx hh)
    have hwl : IntKind.u64.wrap (M.length : Int) = (M.length : Int) := by rw [IntKind.wrap_u64]; omega
    by_cases c1 : n < M.length
    · have e : atM M x = M[n] := by unfold atM; rw [hh, Option.bind_some, List.getElem?_eq_getElem c1]; rfl
      obtain ⟨g, cap, hac, hcell⟩ := row_get1 h.row (i := n) (u := ptrV M[n]) (by rw [List.getElem?_map, List.getElem?_eq_getElem c1]; rfl)
      cases hac
      have ep : ptrV M[n] = .pointer (M[n].map fun m => ⟨m.blk, 0, none⟩) := by cases M[n] <;> rfl
      rw [ep] at hcell
      rw [e]
      have c1' : (n : Int) < (M.length : Int) := by omega
      clear e h hh ep
      obtain ⟨o, ho⟩ : ∃ o, o = M[n].map fun m => (⟨m.blk, 0, none⟩ : Addr) := ⟨_, rfl⟩
      rw [← ho] at hcell ⊢
      clear ho
      go_enter Try.func88, Try.ntmps88
      go_wp2_with (go_at_call 121; (with_reducible refine (CT.out _).mono ?_); rintro e w' ⟨rfl, rfl⟩)
      go_ret
      exact ⟨rfl, rfl⟩
    · have e : atM M x = none := by unfold atM; rw [hh, Option.bind_some, List.getElem?_eq_none (by omega)]; rfl
      rw [e]
      have c1' : (M.length : Int) ≤ (n : Int) := by omega
      clear e h hh
      go_enter Try.func88, Try.ntmps88
      go_wp2_with (go_at_call 121; (with_reducible refine (CT.out _).mono ?_); rintro e w' ⟨rfl, rfl⟩)
      go_ret
      exact ⟨rfl, rfl⟩
/-- May a word stand in a row? -/
def soundB (M : List (Option MC)) (x : Nat) : Bool := if cls x = 7 then false else if cls x = 6 then (atM M x).isSome else true
theorem sound_calls (h : HeapAt w p units used M cv rp F most) (x : Nat) (hx : x < 18446744073709551616) :
    Calls Try.prog 90 #[.pointer (some ⟨p, 0, none⟩), .int .u64 (x : Int)] w fun e w' => e = .returned (.bool (soundB M x)) ∧ w = w' := by
  have CC := Mem.Aside.mk (class_calls x hx)
  have CF := Mem.Aside.mk (find_calls h x hx)
  unfold soundB
  obtain ⟨C, hC⟩ : ∃ C, C = cls x := ⟨_, rfl⟩
  rw [← hC] at CC ⊢
  clear h hC
  by_cases c7 : C = 7
  · subst c7
    go_enter Try.func90, Try.ntmps90
    go_wp2_with (go_at_call 102; (with_reducible refine (CC.out _).mono ?_); rintro e w' ⟨rfl, rfl⟩)
    go_ret
    exact ⟨rfl, rfl⟩
  · by_cases c6 : C = 6
    · subst c6
      cases ho : atM M x with
      | none =>
        rw [ho] at CF
        go_enter Try.func90, Try.ntmps90
        go_wp2_with (first
          | (go_at_call 102; (with_reducible refine (CC.out _).mono ?_); rintro e w' ⟨rfl, rfl⟩)
          | (go_at_call 88; (with_reducible refine CF.out.mono ?_); rintro e w' ⟨rfl, rfl⟩))
        go_ret
        exact ⟨rfl, rfl⟩
      | some m =>
        rw [ho] at CF
        go_enter Try.func90, Try.ntmps90
        go_wp2_with (first
          | (go_at_call 102; (with_reducible refine (CC.out _).mono ?_); rintro e w' ⟨rfl, rfl⟩)
          | (go_at_call 88; (with_reducible refine CF.out.mono ?_); rintro e w' ⟨rfl, rfl⟩))
        go_ret
        exact ⟨rfl, rfl⟩
    · have e7 : ((C : Int) == 7) = false := by simpa using (by omega : ¬ (C : Int) = 7)
      have e6 : ((C : Int) == 6) = false := by simpa using (by omega : ¬ (C : Int) = 6)
      rw [if_neg c7, if_neg c6]
      clear c7 c6
      go_enter Try.func90, Try.ntmps90
      go_wp2_with (go_at_call 102; (with_reducible refine (CC.out _).mono ?_); rintro e w' ⟨rfl, rfl⟩)
      go_ret
      exact ⟨rfl, rfl⟩
end
end Go.Proofs.Ytgimcpnelogadaa.Hp
/- Chapter 6: slices.Clone, Index and ContainsFunc, as the heap calls them. -/
namespace Go.Proofs.Ytgimcpnelogadaa.Hp
open Go.RowKit Go.Proofs.Ytgimcpnelogadaa.Mem Go.Proofs.Ytgimcpnelogadaa.Sto Go.Proofs.Ytgimcpnelogadaa.Wd
set_option linter.unusedVariables false
set_option linter.unusedSimpArgs false
attribute [local go_sem] Option.isNone_some Option.isNone_none

theorem elemU64 : Elem Try.prog 22 1 8 (.int .u64 0) := Elem.of (by kernel_rfl) rfl (by intro v hv; simp [Value.cells] at hv; subst hv; rfl) (by decide)
theorem elemByte : Elem Try.prog 5 1 1 (.int .u8 0) := Elem.of (by kernel_rfl) rfl (by intro v hv; simp [Value.cells] at hv; subst hv; rfl) (by decide)
theorem u64V_one (l : List Nat) : ∀ u ∈ u64V l, u.oneCell' = true := by
  intro u hu
  obtain ⟨x, _, rfl⟩ := List.mem_map.1 hu
  rfl
theorem byteV_one (l : List UInt8) : ∀ u ∈ u8V l, u.oneCell' = true := by
  intro u hu
  obtain ⟨x, _, rfl⟩ := List.mem_map.1 hu
  rfl
theorem u64V_length (l : List Nat) : (u64V l).length = l.length := by simp [u64V]
theorem u8V_len (l : List UInt8) : (u8V l).length = l.length := by simp [u8V]
/-- An empty row that was made now. -/
theorem Row.made0 {w : World} (t : TypeId) (size : Nat) : Row (w.alloc (.cells #[] t)) t size (.slice (some ⟨w.heap.size, 0, none⟩) 0 0) 0 [] :=
  Row.mk (rest := []) (Blk.newL [] rfl) (by simp) (Nat.le_refl _) (Nat.zero_le _) (by simp)

set_option maxHeartbeats 4000000 in
theorem clone64 {w : World} {v : Value} {l : List Nat} (h : Row w 22 1 v l.length (u64V l)) (hl : l.length ≤ 1000000000) :
    Calls Try.prog 84 #[v] w fun e w' => ∃ v', e = .returned v' ∧ Row w' 22 1 v' l.length (u64V l) ∧ Chg [] w w' ∧ ∀ g, v'.ownBlock = some g → w.heap.size ≤ g := by
  have hq := fun (w : World) a n c => Lib.run_eql_slice_nil (P := Try.prog) w 58 22 a n c 0 0 Try.underlying58
  rcases h.cases with ⟨rfl, hn, hx⟩ | ⟨g, cap, rest, rfl, hb, hn, hc, hlen⟩
  · have hl0 : l = [] := List.eq_nil_of_length_eq_zero hn
    subst hl0
    clear h hn hx
    go_enter Try.func84, Try.ntmps84
    go_wp2
    go_ret
    exact ⟨_, rfl, Row.nil _ _ _, Chg.refl _ _, fun g hg => by cases hg⟩
  · obtain ⟨v', w1, hr, hR, hC, hO⟩ := (Row.made0 (w := w) 22 1).append (c := cap) Try.underlying58 elemU64 (m := l.length) (news := u64V l) (ad := ⟨g, 0, none⟩) (by simp [u64V]) ((hb.alloc _).from (fun j u hu => by rw [Nat.zero_add]; exact List.getElem?_append_left_some hu)) (u64V_one l) (by omega) (by omega)
    have HR := Mem.Aside.mk hr
    have HRR := Mem.Aside.mk hR
    have HC := Mem.Aside.mk hC
    have HO := Mem.Aside.mk hO
    clear h hb hn hc hlen hl hr hR hC hO
    go_enter Try.func84, Try.ntmps84
    go_wp2_with (at_builtin; refine wpList_builtin2 _ (by rfl) .append _ _ _ (by rfl) _ _ (by rfl) (by rfl) _ _ (HR.out _) ?_)
    go_ret
    have e := HRR.out
    rw [Nat.zero_add, List.nil_append] at e
    refine ⟨v', rfl, e, ((Chg.refl [] w).alloc (.cells #[] 22)).then HC.out (fun x hx => .inr ?_), fun k hk => ?_⟩
    · simp [Value.ownBlock] at hx; omega
    · rcases HO.out with e | e <;> rw [e] at hk
      · simp [Value.ownBlock] at hk; omega
      · cases hk; simp
set_option maxHeartbeats 4000000 in
theorem clone8 {w : World} {v : Value} {l : List UInt8} (h : Row w 5 1 v l.length (u8V l)) (hl : l.length ≤ 1000000000) :
    Calls Try.prog 89 #[v] w fun e w' => ∃ v', e = .returned v' ∧ Row w' 5 1 v' l.length (u8V l) ∧ Chg [] w w' ∧ ∀ g, v'.ownBlock = some g → w.heap.size ≤ g := by
  have hq := fun (w : World) a n c => Lib.run_eql_slice_nil (P := Try.prog) w 57 5 a n c 0 0 Try.underlying57
  rcases h.cases with ⟨rfl, hn, hx⟩ | ⟨g, cap, rest, rfl, hb, hn, hc, hlen⟩
  · have hl0 : l = [] := List.eq_nil_of_length_eq_zero hn
    subst hl0
    clear h hn hx
    go_enter Try.func89, Try.ntmps89
    go_wp2
    go_ret
    exact ⟨_, rfl, Row.nil _ _ _, Chg.refl _ _, fun g hg => by cases hg⟩
  · obtain ⟨v', w1, hr, hR, hC, hO⟩ := (Row.made0 (w := w) 5 1).append (c := cap) Try.underlying57 elemByte (m := l.length) (news := u8V l) (ad := ⟨g, 0, none⟩) (by simp [u8V]) ((hb.alloc _).from (fun j u hu => by rw [Nat.zero_add]; exact List.getElem?_append_left_some hu)) (byteV_one l) (by omega) (by omega)
    have HR := Mem.Aside.mk hr
    have HRR := Mem.Aside.mk hR
    have HC := Mem.Aside.mk hC
    have HO := Mem.Aside.mk hO
    clear h hb hn hc hlen hl hr hR hC hO
    go_enter Try.func89, Try.ntmps89
    go_wp2_with (at_builtin; refine wpList_builtin2 _ (by rfl) .append _ _ _ (by rfl) _ _ (by rfl) (by rfl) _ _ (HR.out _) ?_)
    go_ret
    have e := HRR.out
    rw [Nat.zero_add, List.nil_append] at e
    refine ⟨v', rfl, e, ((Chg.refl [] w).alloc (.cells #[] 5)).then HC.out (fun x hx => .inr ?_), fun k hk => ?_⟩
    · simp [Value.ownBlock] at hx; omega
    · rcases HO.out with e | e <;> rw [e] at hk
      · simp [Value.ownBlock] at hk; omega
      · cases hk; simp
/-- Which place is free: the first, or -1. -/
def FreeAt (M : List (Option MC)) (z : Int) : Prop := (∃ i : Nat, z = i ∧ M[i]? = some none ∧ ∀ j : Nat, j < i → M[j]? ≠ some none) ∨ (z = -1 ∧ ∀ j : Nat, M[j]? ≠ some none)
theorem under_cell : ∃ e, Try.prog.underlying 134 = some (.pointer e) := by
  have h : (match Try.prog.underlying 134 with | some (.pointer _) => true | _ => false) = true := by kernel_rfl
  split at h
  · next e he => exact ⟨e, he⟩
  · exact absurd h (by simp)
theorem eqIn_nil (d : Nat) (o : Option Addr) (w : World) : (Op.equalIn (d + 1) 134 (.pointer none) (.pointer o)).run Try.prog w = .ok o.isNone w := by
  obtain ⟨e, h⟩ := under_cell
  cases o <;> simp [Op.equalIn, run_underlying h]
theorem eql_nil (o : Option Addr) (w : World) : (binOp .eql 134 (.pointer none) (.pointer o)).run Try.prog w = .ok (.bool o.isNone) w := by
  simp only [binOp]
  simp [Op.equal, Op.maxDepth, eqIn_nil 9999 o w]
set_option maxHeartbeats 4000000 in
set_option maxRecDepth 100000 in
theorem index_calls {w : World} {v : Value} {M : List (Option MC)} (h : Row w 134 1 v M.length (M.map ptrV)) (hl : M.length ≤ 1000000000) :
    Calls Try.prog 86 #[v, .pointer none] w fun e w' => (∃ z : Int, e = .returned (.int .i64 z) ∧ FreeAt M z) ∧ w = w' := by
  obtain ⟨a, c, rfl⟩ := Row_form h
  have H := Mem.Aside.mk h
  clear h
  go_enter Try.func86, Try.ntmps86
  go_wp2
  go_loopw [8] (fun i wr => ∃ k : Nat, i = .int .i64 (k : Int) ∧ k ≤ M.length ∧ Mem.Aside (∀ j : Nat, j < k → M[j]? ≠ some none) ∧ w = wr) (fun i _ => M.length - (intOf i).toNat)
  case atStart => exact ⟨0, rfl, Nat.zero_le _, ⟨fun j hj => absurd hj (Nat.not_lt_zero _)⟩, rfl⟩
  case round =>
    obtain ⟨k, rfl, hk, HN, rfl⟩ := hrel
    by_cases d : k < M.length
    · have d' : (k : Int) < (M.length : Int) := by omega
      have hwk := (IntWalk.i64_in ((k : Int) + 1) (by omega) : IntKind.i64.wrap ((k : Int) + 1) = ((k + 1 : Nat) : Int))
      obtain ⟨g, cap, hac, hcell⟩ := row_get1 H.out (i := k) (u := ptrV M[k]) (by rw [List.getElem?_map, List.getElem?_eq_getElem d]; rfl)
      cases hac
      have HM : Mem.Aside (M[k]? = some M[k]) := ⟨List.getElem?_eq_getElem d⟩
      obtain ⟨o, ho⟩ : ∃ o, o = M[k] := ⟨_, rfl⟩
      rw [← ho] at hcell HM
      clear ho
      have ep : ptrV o = .pointer (o.map fun m => ⟨m.blk, 0, none⟩) := by cases o <;> rfl
      rw [ep] at hcell
      obtain ⟨q, hq⟩ : ∃ q, q = o.map fun m => (⟨m.blk, 0, none⟩ : Addr) := ⟨_, rfl⟩
      rw [← hq] at hcell
      have hEQ := fun (w : World) => eql_nil q w
      cases hqn : q.isNone with
      | true =>
        rw [hqn] at hEQ
        have HO : Mem.Aside (o = none) := ⟨by cases o with | none => rfl | some m => rw [hq] at hqn; cases hqn⟩
        clear hq ep
        go_wp2
        go_ret
        exact ⟨⟨_, rfl, Or.inl ⟨k, rfl, by rw [HM.out, HO.out], HN.out⟩⟩, rfl⟩
      | false =>
        rw [hqn] at hEQ
        have HO : Mem.Aside (o ≠ none) := ⟨fun e => by rw [hq, e] at hqn; cases hqn⟩
        clear hq ep
        go_wp2
        refine ⟨⟨k + 1, by go_num, by omega, ⟨fun j hj e => ?_⟩, trivial⟩, by simp [intOf]; omega⟩
        rcases Nat.lt_succ_iff_lt_or_eq.1 hj with h | h
        · exact HN.out j h e
        · subst h; rw [HM.out] at e; exact HO.out (Option.some.inj e)
    · have d' : decide ((k : Int) < (M.length : Int)) = false := decide_eq_false (by omega)
      go_wp2
      go_ret
      refine ⟨⟨_, rfl, Or.inr ⟨rfl, fun j e => ?_⟩⟩, rfl⟩
      have := (List.getElem?_eq_some_iff.1 e).1
      exact HN.out j (by omega) e

section
variable {w : World} {p units used rp most : Nat} {M : List (Option MC)} {cv : Value} {F : List Nat}
theorem stray_calls (h : HeapAt w p units used M cv rp F most) {hb : Nat} (hc : w.cell? ⟨hb, 0, none⟩ = some (.pointer (some ⟨p, 0, none⟩))) (x : Nat) (hx : x < 18446744073709551616) :
    Calls Try.prog 119 #[.int .u64 (x : Int), .pointer (some ⟨hb, 0, none⟩)] w fun e w' => e = .returned (.bool (!soundB M x)) ∧ w = w' := by
  have CS := Mem.Aside.mk (sound_calls h x hx)
  clear h
  go_enter Try.func119, Try.ntmps119
  go_wp2_with (go_at_call 90; (with_reducible refine CS.out.mono ?_); rintro e w' ⟨rfl, rfl⟩)
  go_ret
  exact ⟨rfl, rfl⟩
set_option maxHeartbeats 4000000 in
theorem indexf_calls (h : HeapAt w p units used M cv rp F most) {hb : Nat} (hc : w.cell? ⟨hb, 0, none⟩ = some (.pointer (some ⟨p, 0, none⟩))) {v : Value} {l : List Nat} (hr : Row w 22 1 v l.length (u64V l)) (hl : l.length ≤ 1000000000) (hx : ∀ x ∈ l, x < 18446744073709551616) :
    Calls Try.prog 139 #[v, .func (.func 119) #[] #[.pointer (some ⟨hb, 0, none⟩)]] w fun e w' => (∃ z : Int, e = .returned (.int .i64 z) ∧ (0 ≤ z ↔ (l.any fun x => !soundB M x) = true)) ∧ w = w' := by
  obtain ⟨a, c, rfl⟩ := Row_form hr
  have H := Mem.Aside.mk h
  have HR := Mem.Aside.mk hr
  have HX := Mem.Aside.mk hx
  have HC := Mem.Aside.mk hc
  clear h hr hx hc
  go_enter Try.func139, Try.ntmps139
  go_wp2
  go_loopw [8] (fun i wr => ∃ k : Nat, i = .int .i64 (k : Int) ∧ k ≤ l.length ∧ Mem.Aside (∀ x ∈ l.take k, soundB M x = true) ∧ w = wr) (fun i _ => l.length - (intOf i).toNat)
  case atStart => exact ⟨0, rfl, Nat.zero_le _, ⟨by simp⟩, rfl⟩
  case round =>
    obtain ⟨k, rfl, hk, HN, rfl⟩ := hrel
    by_cases d : k < l.length
    · have d' : (k : Int) < (l.length : Int) := by omega
      have hwk := (IntWalk.i64_in ((k : Int) + 1) (by omega) : IntKind.i64.wrap ((k : Int) + 1) = ((k + 1 : Nat) : Int))
      obtain ⟨g, cap, hac, hcell⟩ := row_get1 HR.out (i := k) (u := .int .u64 (l[k] : Int)) (by unfold u64V; rw [List.getElem?_map, List.getElem?_eq_getElem d]; rfl)
      cases hac
      have CS := Mem.Aside.mk (stray_calls H.out HC.out l[k] (HX.out _ (List.getElem_mem d)))
      have HM : Mem.Aside (l[k]? = some l[k]) := ⟨List.getElem?_eq_getElem d⟩
      obtain ⟨x, hxx⟩ : ∃ x, x = l[k] := ⟨_, rfl⟩
      rw [← hxx] at hcell HM CS
      clear hxx
      cases hs : soundB M x with
      | true =>
        rw [hs] at CS
        have HS := Mem.Aside.mk hs
        clear hs
        go_wp2_with (go_at_call 119; (with_reducible refine CS.out.mono ?_); rintro e w' ⟨rfl, rfl⟩)
        refine ⟨⟨k + 1, by go_num, by omega, ⟨fun y hy => ?_⟩, trivial⟩, by simp [intOf]; omega⟩
        rw [List.take_add_one, HM.out] at hy
        rcases List.mem_append.1 hy with hy | hy
        · exact HN.out y hy
        · simp at hy; subst hy; exact HS.out
      | false =>
        rw [hs] at CS
        have HS := Mem.Aside.mk hs
        clear hs
        go_wp2_with (go_at_call 119; (with_reducible refine CS.out.mono ?_); rintro e w' ⟨rfl, rfl⟩)
        go_ret
        exact ⟨⟨_, rfl, ⟨fun _ => List.any_eq_true.2 ⟨x, List.mem_of_getElem? HM.out, by rw [HS.out]; rfl⟩, fun _ => by omega⟩⟩, rfl⟩
    · have d' : decide ((k : Int) < (l.length : Int)) = false := decide_eq_false (by omega)
      have hN := HN.out
      rw [List.take_of_length_le (by omega)] at hN
      have HN2 := Mem.Aside.mk hN
      clear hN
      go_wp2
      go_ret
      refine ⟨⟨_, rfl, ⟨fun h => absurd h (by decide), fun h => ?_⟩⟩, rfl⟩
      obtain ⟨x, hx, e⟩ := List.any_eq_true.1 h
      rw [HN2.out x hx] at e
      cases e
theorem contains_calls (h : HeapAt w p units used M cv rp F most) {hb : Nat} (hc : w.cell? ⟨hb, 0, none⟩ = some (.pointer (some ⟨p, 0, none⟩))) {v : Value} {l : List Nat} (hr : Row w 22 1 v l.length (u64V l)) (hl : l.length ≤ 1000000000) (hx : ∀ x ∈ l, x < 18446744073709551616) :
    Calls Try.prog 118 #[v, .func (.func 119) #[] #[.pointer (some ⟨hb, 0, none⟩)]] w fun e w' => e = .returned (.bool (l.any fun x => !soundB M x)) ∧ w = w' := by
  have CI := Mem.Aside.mk (indexf_calls h hc hr hl hx)
  obtain ⟨B, hB⟩ : ∃ B, B = l.any fun x => !soundB M x := ⟨_, rfl⟩
  rw [← hB] at CI ⊢
  clear h hc hr hx hB
  go_enter Try.func118, Try.ntmps118
  go_wp2_with (go_at_call 139; (with_reducible refine CI.out.mono ?_); rintro e w' ⟨⟨z, rfl, hz⟩, rfl⟩; have HZ := Mem.Aside.mk hz; clear hz)
  go_ret
  refine ⟨?_, rfl⟩
  have hz := HZ.out
  cases B with
  | true => simp only [iff_true] at hz; simp [hz]
  | false => simp only [Bool.false_eq_true, iff_false] at hz; simp [hz]
end
end Go.Proofs.Ytgimcpnelogadaa.Hp
/- Chapter 6: reached's closure mark. -/
namespace Go.Proofs.Ytgimcpnelogadaa.Hp
open Go.RowKit Go.Proofs.Ytgimcpnelogadaa.Mem Go.Proofs.Ytgimcpnelogadaa.Sto Go.Proofs.Ytgimcpnelogadaa.Wd
set_option linter.unusedVariables false
set_option linter.unusedSimpArgs false

/-- What a walk's record keeps by itself. -/
structure MkS (cs : Cells) (s : Mk) : Prop where
  len : s.marks.length = cs.length
  units : s.units = unitsOf cs s.marks
  room : s.todo.length + (s.marks.filter fun b => !b).length ≤ cs.length
theorem MkS.step {cs : Cells} {s : Mk} (h : MkS cs s) (w : Nat) : MkS cs (s.step cs w) := by
  unfold Mk.step
  split
  · rename_i n e
    split
    · exact h
    · rename_i c
      have hn := at_lt e
      have h1 := h.len
      have hf := filter_set s.marks n (by omega) (by simpa using c)
      refine ⟨by simp [h.len], ?_, ?_⟩
      · show s.units + cs.need n = _
        rw [units_set h.len hn (by simpa using c), h.units]
      · have := h.room
        simp only [List.length_append, List.length_cons, List.length_nil]
        omega
  · exact h
theorem MkS.list {cs : Cells} : ∀ (l : List Nat) {s : Mk}, MkS cs s → MkS cs (s.list cs l)
  | [], _, h => h
  | w :: l, _, h => MkS.list l (h.step w)
theorem Mk.list_take {cs : Cells} (s : Mk) (l : List Nat) {k : Nat} (hk : k < l.length) : s.list cs (l.take (k + 1)) = (s.list cs (l.take k)).step cs l[k] := by
  unfold Mk.list
  rw [List.take_succ_eq_append_getElem hk, List.foldl_append]
  rfl
/-- A truth of a row turns. -/
theorem row_set1 {w : World} {t : TypeId} {g n cap : Nat} {xs : List Value} (h : Row w t 1 (.slice (some ⟨g, 0, none⟩) n cap) n xs) {i : Nat} (hi : i < n) (u : Value) : Row (w.setCell ⟨g, i, none⟩ u) t 1 (.slice (some ⟨g, 0, none⟩) n cap) n (xs.set i u) := by
  rcases h.cases with ⟨h1, _⟩ | ⟨g', cap', rest, h1, hb, hn, hc, hl⟩
  · cases h1
  · cases h1
    have hlen : xs.length = n := by have := h.length; omega
    have := hb.set i u
    rw [List.set_append_left _ _ (by omega)] at this
    exact Row.mk this (by simp; omega) hn hc (by simpa using hl)

/-- A walk's record in memory: the variables h, marks, units, todo. -/
structure MkAt (w : World) (hb p mb ub tb : Nat) (s : Mk) (mv tv : Value) : Prop where
  h : Blk w hb 63 [.pointer (some ⟨p, 0, none⟩)]
  m : Blk w mb 50 [mv]
  mr : Row w 4 1 mv s.marks.length (s.marks.map Value.bool)
  u : Blk w ub 3 [.int .i64 (s.units : Int)]
  t : Blk w tb 58 [tv]
  tr : Row w 22 1 tv s.todo.length (u64V s.todo)
/-- What a walk writes. -/
def mkFoot (ub tb : Nat) (mv tv : Value) : List Nat := ub :: tb :: (mv.ownBlock.toList ++ tv.ownBlock.toList)
section
variable {w w' : World} {hb p mb ub tb units used rp most : Nat} {M : List (Option MC)} {cv mv tv : Value} {F : List Nat} {s : Mk}
theorem MkAt.lt (h : MkAt w hb p mb ub tb s mv tv) : ∀ k ∈ mkFoot ub tb mv tv, k < w.heap.size := by
  intro k hk
  simp only [mkFoot, List.mem_cons, List.mem_append, Option.mem_toList] at hk
  rcases hk with rfl | rfl | hk | hk
  · exact h.u.lt
  · exact h.t.lt
  · exact h.mr.lt hk
  · exact h.tr.lt hk

set_option maxHeartbeats 8000000 in
set_option maxRecDepth 100000 in
theorem mark_calls (h : HeapAt w p units used M cv rp F most) (hk : MkAt w hb p mb ub tb s mv tv) (hS : MkS (celsOf M) s) (hU : ∀ B : List Bool, unitsOf (celsOf M) B ≤ 1048576) {lv : Value} {l : List Nat} (hl : Row w 22 1 lv l.length (u64V l))
    (hlen : l.length ≤ 1000000000) (hx : ∀ x ∈ l, x < 18446744073709551616) (hsep : ∀ k ∈ mkFoot ub tb mv tv, k ∉ hfoot p cv M F) (hlt : ∀ g, lv.ownBlock = some g → tv.ownBlock ≠ some g) :
    Calls Try.prog 120 #[lv, .pointer (some ⟨hb, 0, none⟩), .pointer (some ⟨mb, 0, none⟩), .pointer (some ⟨ub, 0, none⟩), .pointer (some ⟨tb, 0, none⟩)] w fun e w' => ∃ tv', e = .returned (.tuple #[]) ∧
      MkAt w' hb p mb ub tb (s.list (celsOf M) l) mv tv' ∧ Chg (mkFoot ub tb mv tv) w w' ∧ (∀ g, tv'.ownBlock = some g → tv.ownBlock = some g ∨ w.heap.size ≤ g) := by
  obtain ⟨al, cl, rfl⟩ := Row_form hl
  have H := Mem.Aside.mk h
  have HK := Mem.Aside.mk hk
  have HS := Mem.Aside.mk hS
  have HU := Mem.Aside.mk hU
  have HL := Mem.Aside.mk hl
  have HX := Mem.Aside.mk hx
  have HSEP := Mem.Aside.mk hsep
  have HLT := Mem.Aside.mk hlt
  clear h hk hS hU hl hx hsep hlt
  go_enter Try.func120, Try.ntmps120
  go_wp2
  go_loopw [12] (fun i wr => ∃ (k : Nat) (tk : Value), i = .int .i64 (k : Int) ∧ k ≤ l.length ∧ Mem.Aside (MkAt wr hb p mb ub tb (s.list (celsOf M) (l.take k)) mv tk) ∧ Mem.Aside (Chg (mkFoot ub tb mv tv) w wr) ∧ Mem.Aside (∀ g, tk.ownBlock = some g → tv.ownBlock = some g ∨ w.heap.size ≤ g)) (fun i _ => l.length - (intOf i).toNat)
  case atStart => exact ⟨0, tv, rfl, Nat.zero_le _, ⟨HK.out⟩, ⟨Chg.refl _ _⟩, ⟨fun g hg => .inl hg⟩⟩
  case round =>
    obtain ⟨k, tk, rfl, hk, HKk, HC, HT⟩ := hrel
    by_cases d : k < l.length
    · have d' : (k : Int) < (l.length : Int) := by omega
      have hwk := (IntWalk.i64_in ((k : Int) + 1) (by omega) : IntKind.i64.wrap ((k : Int) + 1) = ((k + 1 : Nat) : Int))
      have hlW : Row wr 22 1 (.slice al l.length cl) l.length (u64V l) := HL.out.chg HC.out (fun g hg hm => by
        simp only [mkFoot, List.mem_cons, List.mem_append, Option.mem_toList] at hm
        obtain ⟨cs, hb⟩ := HL.out.typed hg
        rcases hm with rfl | rfl | hm | hm
        · exact absurd (hb.inj HK.out.u).1 (by decide)
        · exact absurd (hb.inj HK.out.t).1 (by decide)
        · obtain ⟨ds, hd⟩ := HK.out.mr.typed hm
          exact absurd (hb.inj hd).1 (by decide)
        · exact HLT.out g hg hm)
      obtain ⟨gl, capl, hal, hcell⟩ := row_get1 hlW (i := k) (u := .int .u64 (l[k] : Int)) (by unfold u64V; rw [List.getElem?_map, List.getElem?_eq_getElem d]; rfl)
      cases hal
      have HSk := Mem.Aside.mk (MkS.list (l.take k) HS.out)
      have HST := Mem.Aside.mk (Mk.list_take (cs := celsOf M) s l d)
      have HW := Mem.Aside.mk (H.out.chg HC.out (fun j hj hm => HSEP.out j hm hj))
      have hxk := HX.out _ (List.getElem_mem d)
      have HXK := Mem.Aside.mk hxk
      obtain ⟨x, hxx⟩ : ∃ x, x = l[k] := ⟨_, rfl⟩
      obtain ⟨S, hSS⟩ : ∃ S, S = s.list (celsOf M) (l.take k) := ⟨_, rfl⟩
      rw [← hxx] at hcell HST HXK hxk
      rw [← hSS] at HST HKk HSk
      clear hxx hSS hlW
      have ch := HKk.out.h.cellAt (i := 0) rfl
      have cm := HKk.out.m.cellAt (i := 0) rfl
      have cu := HKk.out.u.cellAt (i := 0) rfl
      have ct := HKk.out.t.cellAt (i := 0) rfl
      cases hh : hdl x with
      | none =>
        have CT := Mem.Aside.mk (toHandle_none hxk hh)
        have hst : S.step (celsOf M) x = S := by unfold Mk.step Cells.at_; rw [hh]
        rw [hst] at HST
        clear hst hh hxk
        go_wp2_with (go_at_call 121; (with_reducible refine (CT.out _).mono ?_); rintro e w' ⟨rfl, rfl⟩)
        exact ⟨⟨k + 1, tk, by go_num, by omega, by rw [HST.out]; exact HKk, HC, HT⟩, by simp [intOf]; omega⟩
      | some n =>
        have CT := Mem.Aside.mk (toHandle_some hxk hh)
        have CF := Mem.Aside.mk (find_calls HW.out x hxk)
        cases hm : atM M x with
        | none =>
          rw [hm] at CF
          have hst : S.step (celsOf M) x = S := by
            unfold Mk.step
            cases e : (celsOf M).at_ x with
            | none => rfl
            | some j =>
              obtain ⟨e1, m, e2⟩ := atM_at.1 e
              have : atM M x = some m := by unfold atM; rw [e1, Option.bind_some, e2]; rfl
              rw [hm] at this; cases this
          rw [hst] at HST
          clear hst hh hxk hm
          go_wp2_with (first
            | (go_at_call 121; (with_reducible refine (CT.out _).mono ?_); rintro e w' ⟨rfl, rfl⟩)
            | (go_at_call 88; (with_reducible refine CF.out.mono ?_); rintro e w' ⟨rfl, rfl⟩))
          exact ⟨⟨k + 1, tk, by go_num, by omega, by rw [HST.out]; exact HKk, HC, HT⟩, by simp [intOf]; omega⟩
        | some m =>
          rw [hm] at CF
          obtain ⟨n', hn', hMn⟩ := atM_some hm
          obtain rfl : n = n' := by rw [hh] at hn'; exact Option.some.inj hn'
          have hat : (celsOf M).at_ x = some n := atM_at.2 ⟨hh, m, hMn⟩
          have hnl : n < S.marks.length := by rw [HSk.out.len]; exact at_lt hat
          have hnl' : (n : Int) < (S.marks.length : Int) := by omega
          obtain ⟨gm, capm, ham, hcm⟩ := row_get1 HKk.out.mr (i := n) (u := .bool S.marks[n]) (by rw [List.getElem?_map, List.getElem?_eq_getElem hnl]; rfl)
          subst ham
          have hget : S.marks.getD n false = S.marks[n] := by rw [List.getD_eq_getElem?_getD, List.getElem?_eq_getElem hnl]; rfl
          cases hmk : S.marks[n] with
          | true =>
            rw [hmk] at hcm
            have hst : S.step (celsOf M) x = S := by unfold Mk.step; rw [hat]; simp only; rw [if_pos (by rw [hget, hmk])]
            rw [hst] at HST
            clear hst hh hxk hm hget hmk hat hMn hn'
            go_wp2_with (first
              | (go_at_call 121; (with_reducible refine (CT.out _).mono ?_); rintro e w' ⟨rfl, rfl⟩)
              | (go_at_call 88; (with_reducible refine CF.out.mono ?_); rintro e w' ⟨rfl, rfl⟩))
            exact ⟨⟨k + 1, tk, by go_num, by omega, by rw [HST.out]; exact HKk, HC, HT⟩, by simp [intOf]; omega⟩
          | false =>
            rw [hmk] at hcm
            have hst : S.step (celsOf M) x = ⟨S.marks.set n true, S.units + (celsOf M).need n, S.todo ++ [n]⟩ := by unfold Mk.step; rw [hat]; simp only; rw [if_neg (by rw [hget, hmk]; simp)]
            go_upto_region 5 with (first
              | (go_at_call 121; (with_reducible refine (CT.out _).mono ?_); rintro e w' ⟨rfl, rfl⟩)
              | (go_at_call 88; (with_reducible refine CF.out.mono ?_); rintro e w' ⟨rfl, rfl⟩))
            have hM : some m ∈ M := List.mem_of_getElem? hMn
            have hneed : (celsOf M).need n = m.c.need := by unfold Cells.need celsOf; rw [List.getElem?_map, hMn]; rfl
            have HS2 := Mem.Aside.mk (HSk.out.step x)
            rw [hst] at HS2 HST
            rw [hneed] at HS2 HST
            have hub : S.units + m.c.need ≤ 1048576 := by have := HS2.out.units; have h2 := HU.out (S.marks.set n true); simp only at this; omega
            have HHH := HW.out
            have c2 := HHH.top.cellAt (i := 2) rfl
            obtain ⟨gc, capc, hcv, hcc⟩ := row_get1 HHH.row (i := n) (u := ptrV (some m)) (by rw [List.getElem?_map, hMn]; rfl)
            subst hcv
            have c10 := (HHH.cells m hM).cellAt (i := 10) rfl
            simp only [ptrV] at hcc
            have hML : n < M.length := (List.getElem?_eq_some_iff.1 hMn).1
            have hML' : (n : Int) < (M.length : Int) := by omega
            have htl : S.todo.length ≤ 1048576 := by
              have h1 := HSk.out.room
              have h2 : (celsOf M).length = M.length := by simp [celsOf]
              have h3 := HHH.small
              omega
            have hfm := HKk.out.mr
            have fzm : wr.frozen? ⟨gm, n, none⟩ = false := by
              rcases hfm.cases with ⟨h1, _⟩ | ⟨g', cap', rest, h1, hb, _⟩
              · cases h1
              · cases h1; exact hb.frozen n
            -- the marks
            have hTy : ∀ {j : Nat} {t : TypeId} {cs : List Value}, t ≠ 4 → Blk wr j t cs → j ≠ gm := fun ht hb e => by
              obtain ⟨ds, hd⟩ := hfm.typed (g := gm) rfl
              rw [e] at hb
              exact ht (hb.inj hd).1
            have k1 : MkAt (wr.setCell ⟨gm, n, none⟩ (.bool true)) hb p mb ub tb ⟨S.marks.set n true, S.units, S.todo⟩ (.slice (some ⟨gm, 0, none⟩) S.marks.length capm) tk :=
              ⟨HKk.out.h.far (p := ⟨gm, n, none⟩) (hTy (by decide) HKk.out.h) _, HKk.out.m.far (p := ⟨gm, n, none⟩) (hTy (by decide) HKk.out.m) _, by
                have := row_set1 hfm hnl (.bool true)
                rw [List.length_set, List.map_set]
                exact this, HKk.out.u.far (p := ⟨gm, n, none⟩) (hTy (by decide) HKk.out.u) _, HKk.out.t.far (p := ⟨gm, n, none⟩) (hTy (by decide) HKk.out.t) _,
                HKk.out.tr.farCell (p := ⟨gm, n, none⟩) (fun e => by
                  obtain ⟨ds, hd⟩ := HKk.out.tr.typed e
                  exact hTy (by decide) hd rfl) _⟩
            have e1 : Chg (mkFoot ub tb (.slice (some ⟨gm, 0, none⟩) S.marks.length capm) tv) wr (wr.setCell ⟨gm, n, none⟩ (.bool true)) := (Chg.refl _ wr).setCell (p := ⟨gm, n, none⟩) (.inl (by simp [mkFoot, Value.ownBlock])) _
            have e0 := HSEP.out
            have hw1 : HeapAt (wr.setCell ⟨gm, n, none⟩ (.bool true)) p units used M (.slice (some ⟨gc, 0, none⟩) M.length capc) rp F most := HHH.chg e1 (fun j hj hm => e0 j hm hj)
            go_upto_region 6 with fail
            have HCF : Mem.Aside (Chg (mkFoot ub tb (.slice (some ⟨gm, 0, none⟩) S.marks.length capm) tv) w (wr.setCell ⟨gm, n, none⟩ (.bool true))) := ⟨HC.out.trans e1⟩
            generalize wr.setCell ⟨gm, n, none⟩ (.bool true) = W1 at k1 hw1 HCF ⊢
            clear ch cm cu ct c2 hcc c10 hcm fzm hfm e1 e0 HHH hTy
            have hwu : IntKind.i64.wrap ((S.units : Int) + (m.c.need : Int)) = (S.units : Int) + (m.c.need : Int) := IntWalk.i64_in _ (by omega)
            have ch := k1.h.cellAt (i := 0) rfl
            have cu := k1.u.cellAt (i := 0) rfl
            have fu := k1.u.frozen 0
            have c2 := hw1.top.cellAt (i := 2) rfl
            obtain ⟨gc', capc', hcv, hcc⟩ := row_get1 hw1.row (i := n) (u := ptrV (some m)) (by rw [List.getElem?_map, hMn]; rfl)
            cases hcv
            have c10 := (hw1.cells m hM).cellAt (i := 10) rfl
            simp only [ptrV] at hcc
            refine region_tail 12 (by kernel_rfl) (by kernel_rfl) ?_
            simp only [List.take_succ_cons, List.take_zero, List.drop_succ_cons, List.drop_zero]
            refine StW.out ?_
            iterate 12 (refine still_take (by rfl) (fun K hK => ?_); go_simp; refine hK _ ?_; clear hK K)
            refine still_end ?_
            go_upto_region 7 with fail
            have hub2 : ∀ {j : Nat} {t : TypeId} {cs : List Value}, t ≠ 3 → Blk W1 j t cs → j ≠ ub := fun ht hb e => by
              rw [e] at hb
              exact ht (hb.inj k1.u).1
            have k2 : MkAt (W1.setCell ⟨ub, 0, none⟩ (.int .i64 ((S.units : Int) + (m.c.need : Int)))).drew hb p mb ub tb ⟨S.marks.set n true, S.units + m.c.need, S.todo⟩ (.slice (some ⟨gm, 0, none⟩) S.marks.length capm) tk :=
              ⟨(k1.h.far (p := ⟨ub, 0, none⟩) (hub2 (by decide) k1.h) _).drew, (k1.m.far (p := ⟨ub, 0, none⟩) (hub2 (by decide) k1.m) _).drew, (k1.mr.farCell (p := ⟨ub, 0, none⟩) (fun e => by
                obtain ⟨ds, hd⟩ := k1.mr.typed e
                exact hub2 (by decide) hd rfl) _).drew, (k1.u.set 0 _).drew, (k1.t.far (p := ⟨ub, 0, none⟩) (hub2 (by decide) k1.t) _).drew, (k1.tr.farCell (p := ⟨ub, 0, none⟩) (fun e => by
                obtain ⟨ds, hd⟩ := k1.tr.typed e
                exact hub2 (by decide) hd rfl) _).drew⟩
            have HC2 : Mem.Aside (Chg (mkFoot ub tb (.slice (some ⟨gm, 0, none⟩) S.marks.length capm) tv) w (W1.setCell ⟨ub, 0, none⟩ (.int .i64 ((S.units : Int) + (m.c.need : Int)))).drew) := ⟨(HCF.out.setCell (p := ⟨ub, 0, none⟩) (.inl (by simp [mkFoot])) _).drew⟩
            generalize (W1.setCell ⟨ub, 0, none⟩ (.int .i64 ((S.units : Int) + (m.c.need : Int)))).drew = W2 at k2 HC2 ⊢
            clear ch cu fu c2 hcc c10 hw1 k1 hub2
            obtain ⟨at', ct', rfl⟩ := Row_form k2.tr
            have y4 := k2.t.cellAt (i := 0) rfl
            have k2t : Row W2 22 1 (.slice at' S.todo.length ct') S.todo.length (u64V S.todo) := k2.tr
            obtain ⟨v5, w5, hr5, hR5, hC5, hO5⟩ := (k2t.alloc (.cells #[.int .u64 (n : Int)] 22)).append (c := 1) Try.underlying58 elemU64 (m := 1) (news := [.int .u64 (n : Int)]) (ad := ⟨W2.heap.size, 0, none⟩) rfl ((Blk.newL [.int .u64 (n : Int)] rfl).from (fun j u hu => by rw [Nat.zero_add]; exact hu)) (by simp [Value.oneCell']) (by omega) (by omega)
            obtain ⟨a5, c5, rfl⟩ := Row_form hR5
            have HK2 := Mem.Aside.mk k2
            have HR5 := Mem.Aside.mk hR5
            have HC5 := Mem.Aside.mk hC5
            have HO5 := Mem.Aside.mk hO5
            have HRUN := Mem.Aside.mk hr5
            have hlt2 := k2.lt
            have hns : ∀ {j : Nat} {t : TypeId} {cs : List Value}, t ≠ 22 → Blk W2 j t cs → Blk w5 j t cs := fun ht hb => (hb.alloc _).chg hC5 (fun hm => by
              obtain ⟨ds, hd⟩ := k2.tr.typed (Option.mem_toList.1 hm)
              exact ht (hb.inj hd).1)
            have t5 := hns (by decide) k2.t
            have z4 := t5.cellAt (i := 0) rfl
            have zf := t5.frozen 0
            have HNS := Mem.Aside.mk (@hns)
            have HHst := Mem.Aside.mk (And.intro hst (And.intro hMn hM))
            clear k2 k2t hr5 hR5 hC5 hO5 hns hst hMn hM hat hn' hm hh hmk hget hlt2
            go_wp2_with (at_builtin; refine wpList_builtin2 _ (by rfl) .append _ _ _ (by rfl) _ _ (by rfl) (by rfl) _ _ (HRUN.out _) ?_)
            have HH5 := HK2.out
            have kk : MkAt (w5.setCell ⟨tb, 0, none⟩ (.slice a5 (S.todo.length + 1) c5)) hb p mb ub tb ⟨S.marks.set n true, S.units + m.c.need, S.todo ++ [n]⟩ (.slice (some ⟨gm, 0, none⟩) S.marks.length capm) (.slice a5 (S.todo.length + 1) c5) := by
              have ntb : ∀ {j : Nat} {t : TypeId} {cs : List Value}, t ≠ 58 → Blk w5 j t cs → j ≠ tb := fun ht hb e => by
                rw [e] at hb
                exact ht (hb.inj t5).1
              have a1 := HNS.out (by decide) HH5.h
              have a2 := HNS.out (by decide) HH5.m
              have a3 := HNS.out (by decide) HH5.u
              have hmr : Row w5 4 1 (.slice (some ⟨gm, 0, none⟩) S.marks.length capm) (S.marks.set n true).length ((S.marks.set n true).map Value.bool) := (HH5.mr.alloc _).chg HC5.out (fun g hg hm => by
                obtain ⟨cs, h1⟩ := HH5.mr.typed hg
                obtain ⟨ds, h2⟩ := HH5.tr.typed (Option.mem_toList.1 hm)
                exact absurd (h1.inj h2).1 (by decide))
              refine ⟨a1.far (p := ⟨tb, 0, none⟩) (ntb (by decide) a1) _, a2.far (p := ⟨tb, 0, none⟩) (ntb (by decide) a2) _, hmr.farCell (p := ⟨tb, 0, none⟩) (fun e => by
                obtain ⟨cs, h1⟩ := hmr.typed e
                exact ntb (by decide) h1 rfl) _, a3.far (p := ⟨tb, 0, none⟩) (ntb (by decide) a3) _, t5.set 0 _, ?_⟩
              have := HR5.out.farCell (p := ⟨tb, 0, none⟩) (fun e => by
                obtain ⟨cs, h1⟩ := HR5.out.typed e
                exact ntb (by decide) h1 rfl) (.slice a5 (S.todo.length + 1) c5)
              show Row _ _ _ _ (S.todo ++ [n]).length (u64V (S.todo ++ [n]))
              rw [List.length_append, List.length_cons, List.length_nil, show u64V (S.todo ++ [n]) = u64V S.todo ++ [.int .u64 (n : Int)] by simp [u64V]]
              exact this
            refine ⟨⟨k + 1, _, by go_num, by omega, by rw [HST.out]; exact ⟨kk⟩, ⟨?_⟩, ⟨fun g hg => ?_⟩⟩, by simp [intOf]; omega⟩
            · refine ((HC2.out.alloc _).then HC5.out (fun j hj => ?_)).setCell (p := ⟨tb, 0, none⟩) (.inl (by simp [mkFoot])) _
              rcases HT.out j (Option.mem_toList.1 hj) with e | e
              · exact .inl (by simp [mkFoot, e])
              · exact .inr e
            · rcases HO5.out with e | e
              · rw [e] at hg; exact HT.out g hg
              · rw [e] at hg
                cases hg
                right
                have := HC2.out.size
                simp
                omega
    · have d' : decide ((k : Int) < (l.length : Int)) = false := decide_eq_false (by omega)
      have hK := HKk.out
      rw [List.take_of_length_le (by omega)] at hK
      have HK2 := Mem.Aside.mk hK
      clear hK
      go_wp2
      refine bodyPost_end (results_none rfl _ _ _) rfl ?_
      exact ⟨tk, rfl, HK2.out, HC.out, HT.out⟩
end
end Go.Proofs.Ytgimcpnelogadaa.Hp
