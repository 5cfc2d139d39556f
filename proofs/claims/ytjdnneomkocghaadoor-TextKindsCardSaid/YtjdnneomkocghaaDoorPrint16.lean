-- Written by a program of this session (wip/tools/myprint.py, over the kit's print.py). Not trusted: Lean checks it.
import Derived.Test.YtjdnneomkocghaaDoorPrint0
import Derived.Test.YtjdnneomkocghaaDoorPrint4
import Derived.Test.YtjdnneomkocghaaDoorPrint7
import Derived.Test.YtjdnneomkocghaaDoorPrint13
import Derived.Test.YtjdnneomkocghaaDoorPrint18
namespace Go.Proofs.YtjdnneomkocghaaDoor.Print
open Go.RowKit Go.Proofs.YtjdnneomkocghaaDoor.Given Go.Proofs.YtjdnneomkocghaaDoorW.PrintWords Go.Proofs.YtjdnneomkocghaaDoorW.PrintLast Go.Proofs.YtjdnneomkocghaaDoorW.PrintMore
attribute [local go_sem] max2_int min2_int max_two min_two max_three min_three max_four min_four   -- for this text's walks alone
set_option linter.unusedVariables false
set_option linter.unusedSimpArgs false

/-! ### casketlaw4_TextKinds: function 9 -/
def casketlaw4_TextKinds.j0 : Nat → Bool → Bool → Int → Int → Bool → Int → Int → Option (Bool)
  | 0, _, _, _, _, _, _, _ => none
  | k + 1, x19, x309000, x309001, x309002, x315000, x315001, x315002 => if x19 = true then (some false) else (if x309000 = true then (if x315001 = x309001 then (if x315002 = 0 then ((casketlaw4_awake.f k).bind fun t315 => (some t315)) else (some false)) else (some false)) else (if x315001 = 0 then ((casketref1_FromFloat.f x309002).bind fun t316 => (if x315002 = t316 then ((casketlaw4_awake.f k).bind fun t317 => (some t317)) else (some false))) else (some false)))
def casketlaw4_TextKinds.f (k : Nat) (a0_0 : Bool) (a0_1 : Int) (a0_2 : Int) : Option (Bool) := (numtext_Text.f k a0_0 a0_1 a0_2).bind fun t309 => ((numtext_Parse.f k t309).bind fun bt310 => (if bt310.2.2.2 = 0 then (casketlaw4_TextKinds.j0 k (bt310.1 != a0_0) a0_0 a0_1 a0_2 bt310.1 bt310.2.1 bt310.2.2.1) else (casketlaw4_TextKinds.j0 k true a0_0 a0_1 a0_2 bt310.1 bt310.2.1 bt310.2.2.1)))
theorem casketlaw4_TextKinds.mono_l : ∀ k, (∀ y0 y1 y2 y3 y4 y5 y6, LeO (casketlaw4_TextKinds.j0 k y0 y1 y2 y3 y4 y5 y6) (casketlaw4_TextKinds.j0 (k + 1) y0 y1 y2 y3 y4 y5 y6))
  | 0 => fun _ _ _ _ _ _ _ r h => by simp [casketlaw4_TextKinds.j0] at h
  | k + 1 => by
    have ih0 := casketlaw4_TextKinds.mono_l k
    · intro y0 y1 y2 y3 y4 y5 y6
      unfold casketlaw4_TextKinds.j0
      repeat' first
      | (with_reducible exact ih0 _ _ _ _ _ _ _)
      | (with_reducible exact casketlaw4_awake.mono _)
      | (with_reducible exact numtext_Parse.mono _ _)
      | (with_reducible exact numtext_Text.mono _ _ _ _)
      | (with_reducible exact LeO.refl _)
      | (with_reducible exact LeO.none _)
      | (with_reducible refine LeO.ite ?_ ?_)
      | (with_reducible refine LeO.bind ?_ (fun _ => ?_))
      | exact ih0 _ _ _ _ _ _ _
      | exact casketlaw4_awake.mono _
      | exact numtext_Parse.mono _ _
      | exact numtext_Text.mono _ _ _ _
      | exact LeO.none _
      | refine LeO.ite ?_ ?_
      | refine LeO.bind ?_ (fun _ => ?_)
theorem casketlaw4_TextKinds.mono : ∀ a0 a1 a2 k, LeO (casketlaw4_TextKinds.f k a0 a1 a2) (casketlaw4_TextKinds.f (k + 1) a0 a1 a2) := by
  intro a0 a1 a2 k
  have ih0 := casketlaw4_TextKinds.mono_l k
  unfold casketlaw4_TextKinds.f
  repeat' first
      | (with_reducible exact ih0 _ _ _ _ _ _ _)
      | (with_reducible exact casketlaw4_awake.mono _)
      | (with_reducible exact numtext_Parse.mono _ _)
      | (with_reducible exact numtext_Text.mono _ _ _ _)
      | (with_reducible exact LeO.refl _)
      | (with_reducible exact LeO.none _)
      | (with_reducible refine LeO.ite ?_ ?_)
      | (with_reducible refine LeO.bind ?_ (fun _ => ?_))
      | exact ih0 _ _ _ _ _ _ _
      | exact casketlaw4_awake.mono _
      | exact numtext_Parse.mono _ _
      | exact numtext_Text.mono _ _ _ _
      | exact LeO.none _
      | refine LeO.ite ?_ ?_
      | refine LeO.bind ?_ (fun _ => ?_)
def casketlaw4_TextKinds.T6 : Bool × List (List Nat × List Nat) := (true, [([], []), ([0], [0]), ([1], [1]), ([2], [2]), ([3], [3]), ([4, 3], [3, 4]), ([3], [3]), ([6, 3], [3, 6]), ([7, 3, 3], [3, 7]), ([5, 8, 3], [3, 5, 8]), ([3, 9], [3, 9]), ([10, 8], [10]), ([11, 11], [11]), ([11, 12], [11, 12]), ([13, 12, 0, 1, 2, 3, 4, 5, 6, 7, 8, 9, 10, 11, 12, 13], [13])])
def casketlaw4_TextKinds.B6 : List Nat := [0, 1, 3, 7, 15, 31, 15, 79, 207, 511, 1023, 2047, 4095, 8191, 16383]
theorem casketlaw4_TextKinds.tab6 : rtab .any (opsOf Tryd.f9 6) = casketlaw4_TextKinds.T6 := by kernel_rfl
theorem casketlaw4_TextKinds.bits6 : waitsOk casketlaw4_TextKinds.T6.2 casketlaw4_TextKinds.B6 = true := by kernel_rfl
set_option maxHeartbeats 8000000 in
set_option maxRecDepth 100000 in
theorem casketlaw4_TextKinds.calls (k : Nat) (a0_0 : Bool) (a0_1 : Int) (a0_2 : Int) (r : Bool) (w : World) (hG : Glob w) (h : casketlaw4_TextKinds.f k a0_0 a0_1 a0_2 = some r) :
    Calls Tryd.prog 9 #[.agg #[.bool a0_0, .int .i64 a0_1, .int .u64 a0_2]] w fun e w' => e = .returned (.bool r) ∧ Below w.heap.size w w' := by
  have HG0 := Aside0.mk hG
  clear hG
  have hu36 := Tryd.underlying36
  have HB := Aside0.mk (Below.refl w.heap.size w)
  have H : ((numtext_Text.f k a0_0 a0_1 a0_2).bind fun t309 => ((numtext_Parse.f k t309).bind fun bt310 => (if bt310.2.2.2 = 0 then (casketlaw4_TextKinds.j0 k (bt310.1 != a0_0) a0_0 a0_1 a0_2 bt310.1 bt310.2.1 bt310.2.2.1) else (casketlaw4_TextKinds.j0 k true a0_0 a0_1 a0_2 bt310.1 bt310.2.1 bt310.2.2.1)))) = some r := h
  clear h
  replace H := Option.bind_eq_some_iff.mp H
  obtain ⟨t309, A20, H⟩ := H
  replace H : ((numtext_Parse.f k t309).bind fun bt310 => (if bt310.2.2.2 = 0 then (casketlaw4_TextKinds.j0 k (bt310.1 != a0_0) a0_0 a0_1 a0_2 bt310.1 bt310.2.1 bt310.2.2.1) else (casketlaw4_TextKinds.j0 k true a0_0 a0_1 a0_2 bt310.1 bt310.2.1 bt310.2.2.1))) = some r := H
  have A2 := Aside0.mk A20
  clear A20
  replace H := Option.bind_eq_some_iff.mp H
  obtain ⟨⟨t310, t311, t312, t313⟩, A30, H⟩ := H
  replace H : (if t313 = 0 then (casketlaw4_TextKinds.j0 k (t310 != a0_0) a0_0 a0_1 a0_2 t310 t311 t312) else (casketlaw4_TextKinds.j0 k true a0_0 a0_1 a0_2 t310 t311 t312)) = some r := H
  have A3 := Aside0.mk A30
  clear A30
  have HC4 := Aside0.mk H
  clear H
  go_enter Tryd.func9, Tryd.ntmps9
  go_upto_region 2 with (first | ((with_reducible refine gate_dst (N := 1) rfl ?_); refine box_event ?hg (N := 1) ?hd (cs := #[.bool a0_0, .int .i64 a0_1, .int .u64 a0_2]) (t := 36) ?hr ?_; (case hd => rfl); (case hg => rfl); (case hr => first | (go_simp; done) | (go_simp; rfl)); intro gb308 hg w5 hbox hb; have n0_ := Aside0.mk (below_step (by repeat (first | (with_reducible first | exact HB.out | apply below_alloc | apply pw_below_drewN | apply below_drew1) | exact HB.out)) hb); have n1_ := Aside0.mk (hbox); have n2_ := Aside0.mk ((by rw [hg]; exact (below_size (by repeat (first | (with_reducible first | exact HB.out | apply below_alloc | apply pw_below_drewN | apply below_drew1) | exact HB.out))) : w.heap.size ≤ gb308)); have n3_ := Aside0.mk ((by rw [hg]; exact (below_size (by repeat (first | (with_reducible first | exact HB.out | apply below_alloc | apply pw_below_drewN | apply below_drew1) | exact HB.out))) : w.heap.size ≤ gb308)); clear HB; have HB := n0_; have BK308 := n1_; have GW308 := n2_; have GE308 := n3_; clear n0_ n1_ n2_ n3_; clear hb hbox hg; have hcz6_0 : w5.cell? ⟨gb308, 0, none⟩ = some (.bool a0_0) := (blk_cell BK308.out 0).trans rfl; have hcz6_1 : w5.cell? ⟨gb308, 1, none⟩ = some (.int .i64 a0_1) := (blk_cell BK308.out 1).trans rfl; have hcz6_2 : w5.cell? ⟨gb308, 2, none⟩ = some (.int .u64 a0_2) := (blk_cell BK308.out 2).trans rfl; have hfz6_0 := blk_frozen BK308.out 0; have hfz6_1 := blk_frozen BK308.out 1; have hfz6_2 := blk_frozen BK308.out 2) | ((with_reducible refine gate_callee (f := 18) rfl ?_); refine goesL_ (some 7) rfl rfl Tryd.func18 (by kernel_rfl) rfl #[.agg #[.bool a0_0, .int .i64 a0_1, .int .u64 a0_2]] rfl (by (try simp only [List.map_toArray, List.map_cons, List.map_nil]); first | done | rfl | (simp only [List.length_drop, List.length_take]; rfl)) ?_; (with_reducible refine (numtext_Text.calls (hG := (by first | exact Glob.at_ HG0.out (by repeat (first | (with_reducible first | exact HB.out | apply below_alloc | apply pw_below_drewN | apply below_drew1 | refine below_set ?_ GE308.out | refine below_set ?_ GE314.out) | exact HB.out)) | exact Glob.at_ HG0.out (Below.refl _ _))) k a0_0 a0_1 a0_2 t309 _ A2.out).mono ?_); rintro e w7 ⟨rfl, hb⟩; refine ⟨_, rfl, ?_⟩; have n0_ := Aside0.mk (blk_below (g := gb308) (o := .cells #[.bool a0_0, .int .i64 a0_1, .int .u64 a0_2] 36 (0, 0)) (by (with_reducible repeat (first | refine blk_drewN ?_ _ | refine blk_drew ?_ | refine blk_alloc ?_ _)); exact BK308.out) hb); have n1_ := Aside0.mk (below_step (by repeat (first | (with_reducible first | exact HB.out | apply below_alloc | apply pw_below_drewN | apply below_drew1 | refine below_set ?_ GE308.out) | exact HB.out)) hb); clear BK308; clear HB; have BK308 := n0_; have HB := n1_; clear n0_ n1_; (try clear hb); (try clear hb2); (try clear hk); (try clear hi)) | ((with_reducible refine gate_callee (f := 22) rfl ?_); refine goesL_ (some 8) rfl rfl Tryd.func22 (by kernel_rfl) rfl #[.string t309] rfl (by (try simp only [List.map_toArray, List.map_cons, List.map_nil]); first | done | rfl | (simp only [List.length_drop, List.length_take]; rfl)) ?_; (with_reducible refine (numtext_Parse.calls (hG := (by first | exact Glob.at_ HG0.out (by repeat (first | (with_reducible first | exact HB.out | apply below_alloc | apply pw_below_drewN | apply below_drew1 | refine below_set ?_ GE308.out | refine below_set ?_ GE314.out) | exact HB.out)) | exact Glob.at_ HG0.out (Below.refl _ _))) k t309 t310 t311 t312 t313 _ A3.out).mono ?_); rintro e w8 ⟨rfl, hb⟩; refine ⟨_, rfl, ?_⟩; have n0_ := Aside0.mk (blk_below (g := gb308) (o := .cells #[.bool a0_0, .int .i64 a0_1, .int .u64 a0_2] 36 (0, 0)) (by (with_reducible repeat (first | refine blk_drewN ?_ _ | refine blk_drew ?_ | refine blk_alloc ?_ _)); exact BK308.out) hb); have n1_ := Aside0.mk (below_step (by repeat (first | (with_reducible first | exact HB.out | apply below_alloc | apply pw_below_drewN | apply below_drew1 | refine below_set ?_ GE308.out) | exact HB.out)) hb); clear BK308; clear HB; have BK308 := n0_; have HB := n1_; clear n0_ n1_; (try clear hb); (try clear hb2); (try clear hk); (try clear hi)) | ((with_reducible refine gate_dst (N := 3) rfl ?_); refine box_event ?hg (N := 3) ?hd (cs := #[.bool false, .int .i64 0, .int .u64 0]) (t := 36) ?hr ?_; (case hd => rfl); (case hg => rfl); (case hr => first | (go_simp; done) | (go_simp; rfl)); intro gb314 hg w9 hbox hb; have n0_ := Aside0.mk (blk_below (g := gb308) (o := .cells #[.bool a0_0, .int .i64 a0_1, .int .u64 a0_2] 36 (0, 0)) (by (with_reducible repeat (first | refine blk_drewN ?_ _ | refine blk_drew ?_ | refine blk_alloc ?_ _)); exact BK308.out) hb); have n1_ := Aside0.mk (below_step (by repeat (first | (with_reducible first | exact HB.out | apply below_alloc | apply pw_below_drewN | apply below_drew1 | refine below_set ?_ GE308.out) | exact HB.out)) hb); have n2_ := Aside0.mk (hbox); have n3_ := Aside0.mk ((by rw [hg]; exact (below_size (by repeat (first | (with_reducible first | exact HB.out | apply below_alloc | apply pw_below_drewN | apply below_drew1 | refine below_set ?_ GE308.out) | exact HB.out))) : w.heap.size ≤ gb314)); have n4_ := Aside0.mk ((by rw [hg]; exact (below_size (by repeat (first | (with_reducible first | exact HB.out | apply below_alloc | apply pw_below_drewN | apply below_drew1 | refine below_set ?_ GE308.out) | exact HB.out))) : w.heap.size ≤ gb314)); have n5_ := Aside0.mk ((by rw [hg]; exact Nat.ne_of_lt (blk_lt (g := gb308) (o := .cells #[.bool a0_0, .int .i64 a0_1, .int .u64 a0_2] 36 (0, 0)) (by (with_reducible repeat (first | refine blk_drewN ?_ _ | refine blk_drew ?_ | refine blk_alloc ?_ _)); exact BK308.out)) : gb308 ≠ gb314)); have n6_ := Aside0.mk ((by rw [hg]; exact Nat.ne_of_gt (blk_lt (g := gb308) (o := .cells #[.bool a0_0, .int .i64 a0_1, .int .u64 a0_2] 36 (0, 0)) (by (with_reducible repeat (first | refine blk_drewN ?_ _ | refine blk_drew ?_ | refine blk_alloc ?_ _)); exact BK308.out)) : gb314 ≠ gb308)); clear BK308; clear HB; have BK308 := n0_; have HB := n1_; have BK314 := n2_; have GW314 := n3_; have GE314 := n4_; have NB308_314 := n5_; have NB314_308 := n6_; clear n0_ n1_ n2_ n3_ n4_ n5_ n6_; clear hb hbox hg; have hnb10 := NB314_308.out; have hnc10 := NB308_314.out; have hcz11_0 : w9.cell? ⟨gb314, 0, none⟩ = some (.bool false) := (blk_cell BK314.out 0).trans rfl; have hcz11_1 : w9.cell? ⟨gb314, 1, none⟩ = some (.int .i64 0) := (blk_cell BK314.out 1).trans rfl; have hcz11_2 : w9.cell? ⟨gb314, 2, none⟩ = some (.int .u64 0) := (blk_cell BK314.out 2).trans rfl; have hfz11_0 := blk_frozen BK314.out 0; have hfz11_1 := blk_frozen BK314.out 1; have hfz11_2 := blk_frozen BK314.out 2))
  (try simp only [Act.put, List.setIfInBounds_toArray, List.set_cons_zero, List.set_cons_succ])
  go_cut [19] (fun v19 wc => ∃ (kq : Nat) (x19_3 : Bool), v19 = .bool x19_3 ∧ Aside0 (casketlaw4_TextKinds.j0 kq x19_3 a0_0 a0_1 a0_2 t310 t311 t312 = some r) ∧ Aside0 (kq ≤ k) ∧ Aside0 (wc.heap[gb308]? = some (.cells #[.bool a0_0, .int .i64 a0_1, .int .u64 a0_2] 36 (0, 0))) ∧ Aside0 (wc.heap[gb314]? = some (.cells #[.bool t310, .int .i64 t311, .int .u64 t312] 36 (0, 0))) ∧ Aside0 (Below w.heap.size w wc))
  case first =>
    have H := HC4.out
    clear HC4
    by_cases c12 : t313 = 0
    · rw [if_pos c12] at H
      have c12b0 : (t313 == 0) = true := beq_iff_eq.mpr c12
      have c12b1 : (t313 != 0) = false := bne_eq_false_iff_eq.mpr c12
      clear c12
      (first | rw [c12b0] | (simp only [i64_w, i32_w]; rw [c12b0]) | skip)
      have H' := Aside0.mk H
      clear H
      have hnb13 := NB314_308.out
      have hnc13 := NB308_314.out
      have hcz14_0 : w9.cell? ⟨gb314, 0, none⟩ = some (.bool false) := (blk_cell BK314.out 0).trans rfl
      have hcz14_1 : w9.cell? ⟨gb314, 1, none⟩ = some (.int .i64 0) := (blk_cell BK314.out 1).trans rfl
      have hcz14_2 : w9.cell? ⟨gb314, 2, none⟩ = some (.int .u64 0) := (blk_cell BK314.out 2).trans rfl
      have hfz14_0 := blk_frozen BK314.out 0
      have hfz14_1 := blk_frozen BK314.out 1
      have hfz14_2 := blk_frozen BK314.out 2
      have hcz15_0 : w9.cell? ⟨gb308, 0, none⟩ = some (.bool a0_0) := (blk_cell BK308.out 0).trans rfl
      have hcz15_1 : w9.cell? ⟨gb308, 1, none⟩ = some (.int .i64 a0_1) := (blk_cell BK308.out 1).trans rfl
      have hcz15_2 : w9.cell? ⟨gb308, 2, none⟩ = some (.int .u64 a0_2) := (blk_cell BK308.out 2).trans rfl
      have hfz15_0 := blk_frozen BK308.out 0
      have hfz15_1 := blk_frozen BK308.out 1
      have hfz15_2 := blk_frozen BK308.out 2
      go_wp2
      go_meet
      case rel => exact ⟨_, ((t310 != a0_0)), (by first | rfl | (simp; done) | (simp [*]; done)), H', ⟨by first | omega | exact Nat.le_refl _⟩, ⟨by (with_reducible repeat (first | refine blk_drewN ?_ _ | refine blk_drew ?_ | refine blk_alloc ?_ _)); refine blk_far ?_ NB308_314.out _; (with_reducible repeat (first | refine blk_drewN ?_ _ | refine blk_drew ?_ | refine blk_alloc ?_ _)); refine blk_far ?_ NB308_314.out _; (with_reducible repeat (first | refine blk_drewN ?_ _ | refine blk_drew ?_ | refine blk_alloc ?_ _)); refine blk_far ?_ NB308_314.out _; (with_reducible repeat (first | refine blk_drewN ?_ _ | refine blk_drew ?_ | refine blk_alloc ?_ _)); exact BK308.out⟩, ⟨by (with_reducible repeat (first | refine blk_drewN ?_ _ | refine blk_drew ?_ | refine blk_alloc ?_ _)); refine blk_put (cs := #[.bool t310, .int .i64 t311, .int .u64 0]) ?_ 2 _ rfl; (with_reducible repeat (first | refine blk_drewN ?_ _ | refine blk_drew ?_ | refine blk_alloc ?_ _)); refine blk_put (cs := #[.bool t310, .int .i64 0, .int .u64 0]) ?_ 1 _ rfl; (with_reducible repeat (first | refine blk_drewN ?_ _ | refine blk_drew ?_ | refine blk_alloc ?_ _)); refine blk_put (cs := #[.bool false, .int .i64 0, .int .u64 0]) ?_ 0 _ rfl; (with_reducible repeat (first | refine blk_drewN ?_ _ | refine blk_drew ?_ | refine blk_alloc ?_ _)); exact BK314.out⟩, ⟨by repeat (first | (with_reducible first | exact HB.out | apply below_alloc | apply pw_below_drewN | apply below_drew1 | refine below_set ?_ GE308.out | refine below_set ?_ GE314.out) | exact HB.out)⟩⟩
    · rw [if_neg c12] at H
      have c12b0 : (t313 == 0) = false := beq_eq_false_iff_ne.mpr c12
      have c12b1 : (t313 != 0) = true := bne_iff_ne.mpr c12
      (first | rw [c12b0] | (simp only [i64_w, i32_w]; rw [c12b0]) | skip)
      have H' := Aside0.mk H
      clear H
      go_wp2
      go_meet
      case rel => exact ⟨_, (true), (by first | rfl | (simp; done) | (simp [*]; done)), H', ⟨by first | omega | exact Nat.le_refl _⟩, ⟨by (with_reducible repeat (first | refine blk_drewN ?_ _ | refine blk_drew ?_ | refine blk_alloc ?_ _)); refine blk_far ?_ NB308_314.out _; (with_reducible repeat (first | refine blk_drewN ?_ _ | refine blk_drew ?_ | refine blk_alloc ?_ _)); refine blk_far ?_ NB308_314.out _; (with_reducible repeat (first | refine blk_drewN ?_ _ | refine blk_drew ?_ | refine blk_alloc ?_ _)); refine blk_far ?_ NB308_314.out _; (with_reducible repeat (first | refine blk_drewN ?_ _ | refine blk_drew ?_ | refine blk_alloc ?_ _)); exact BK308.out⟩, ⟨by (with_reducible repeat (first | refine blk_drewN ?_ _ | refine blk_drew ?_ | refine blk_alloc ?_ _)); refine blk_put (cs := #[.bool t310, .int .i64 t311, .int .u64 0]) ?_ 2 _ rfl; (with_reducible repeat (first | refine blk_drewN ?_ _ | refine blk_drew ?_ | refine blk_alloc ?_ _)); refine blk_put (cs := #[.bool t310, .int .i64 0, .int .u64 0]) ?_ 1 _ rfl; (with_reducible repeat (first | refine blk_drewN ?_ _ | refine blk_drew ?_ | refine blk_alloc ?_ _)); refine blk_put (cs := #[.bool false, .int .i64 0, .int .u64 0]) ?_ 0 _ rfl; (with_reducible repeat (first | refine blk_drewN ?_ _ | refine blk_drew ?_ | refine blk_alloc ?_ _)); exact BK314.out⟩, ⟨by repeat (first | (with_reducible first | exact HB.out | apply below_alloc | apply pw_below_drewN | apply below_drew1 | refine below_set ?_ GE308.out | refine below_set ?_ GE314.out) | exact HB.out)⟩⟩
  case rest =>
    clear HC4
    try clear c1
    try clear c2
    try clear p2
    try clear c9
    try clear c10
    try clear c12
    try clear c12b0
    try clear c12b1
    try clear c13
    try clear hcz11_0
    try clear hcz11_1
    try clear hcz11_2
    try clear hcz14_0
    try clear hcz14_1
    try clear hcz14_2
    try clear hcz15_0
    try clear hcz15_1
    try clear hcz15_2
    try clear hcz6_0
    try clear hcz6_1
    try clear hcz6_2
    try clear hfz11_0
    try clear hfz11_1
    try clear hfz11_2
    try clear hfz14_0
    try clear hfz14_1
    try clear hfz14_2
    try clear hfz15_0
    try clear hfz15_1
    try clear hfz15_2
    try clear hfz6_0
    try clear hfz6_1
    try clear hfz6_2
    obtain ⟨kq, x19_3, rfl, HA, HJ3, BK308, BK314, HB⟩ := hcut
    cases kq with
    | zero => exact absurd HA.out (by simp [casketlaw4_TextKinds.j0])
    | succ kj3 =>
      have H := HA.out
      clear HA
      simp only [casketlaw4_TextKinds.j0] at H
      by_cases c16 : x19_3 = true
      · subst c16
        have H1 : (some false) = some r := by rw [if_pos rfl] at H; exact H
        clear H
        have H := H1
        clear H1
        obtain rfl := Option.some.inj H
        go_wp2
        go_ret
        exact ⟨by first | rfl | (simp [errW_none, errW_some] <;> rfl) | (simp [*, errW_none, errW_some] <;> rfl), by repeat (first | (with_reducible first | exact HB.out | apply below_alloc | apply pw_below_drewN | apply below_drew1 | refine below_set ?_ GE308.out | refine below_set ?_ GE314.out) | exact HB.out)⟩
      · replace c16 := Bool.eq_false_iff.mpr c16
        subst c16
        have H1 : (if a0_0 = true then (if t311 = a0_1 then (if t312 = 0 then ((casketlaw4_awake.f kj3).bind fun t315 => (some t315)) else (some false)) else (some false)) else (if t311 = 0 then ((casketref1_FromFloat.f a0_2).bind fun t316 => (if t312 = t316 then ((casketlaw4_awake.f kj3).bind fun t317 => (some t317)) else (some false))) else (some false))) = some r := by rw [if_neg (show ¬ (false = true) by decide)] at H; exact H
        clear H
        have H := H1
        clear H1
        by_cases c17 : a0_0 = true
        · subst c17
          have H1 : (if t311 = a0_1 then (if t312 = 0 then ((casketlaw4_awake.f kj3).bind fun t315 => (some t315)) else (some false)) else (some false)) = some r := by rw [if_pos rfl] at H; exact H
          clear H
          have H := H1
          clear H1
          by_cases c18 : t311 = a0_1
          · rw [if_pos c18] at H
            have c18b0 : (t311 == a0_1) = true := beq_iff_eq.mpr c18
            have c18b1 : (t311 != a0_1) = false := bne_eq_false_iff_eq.mpr c18
            clear c18
            by_cases c19 : t312 = 0
            · rw [if_pos c19] at H
              have c19b0 : (t312 == 0) = true := beq_iff_eq.mpr c19
              have c19b1 : (t312 != 0) = false := bne_eq_false_iff_eq.mpr c19
              clear c19
              replace H := Option.bind_eq_some_iff.mp H
              obtain ⟨t315, A200, H⟩ := H
              replace H : (some t315) = some r := H
              have A20 := Aside0.mk A200
              clear A200
              obtain rfl := Option.some.inj H
              have hnb21 := NB308_314.out
              have hnc21 := NB314_308.out
              have hcz22_0 : wc.cell? ⟨gb308, 0, none⟩ = some (.bool true) := (blk_cell BK308.out 0).trans rfl
              have hcz22_1 : wc.cell? ⟨gb308, 1, none⟩ = some (.int .i64 a0_1) := (blk_cell BK308.out 1).trans rfl
              have hcz22_2 : wc.cell? ⟨gb308, 2, none⟩ = some (.int .u64 a0_2) := (blk_cell BK308.out 2).trans rfl
              have hfz22_0 := blk_frozen BK308.out 0
              have hfz22_1 := blk_frozen BK308.out 1
              have hfz22_2 := blk_frozen BK308.out 2
              have hcz23_0 : wc.cell? ⟨gb314, 0, none⟩ = some (.bool t310) := (blk_cell BK314.out 0).trans rfl
              have hcz23_1 : wc.cell? ⟨gb314, 1, none⟩ = some (.int .i64 t311) := (blk_cell BK314.out 1).trans rfl
              have hcz23_2 : wc.cell? ⟨gb314, 2, none⟩ = some (.int .u64 t312) := (blk_cell BK314.out 2).trans rfl
              have hfz23_0 := blk_frozen BK314.out 0
              have hfz23_1 := blk_frozen BK314.out 1
              have hfz23_2 := blk_frozen BK314.out 2
              go_wp2_with (first | (go_at_call 13; (with_reducible refine (casketlaw4_awake.calls (hG := (by first | exact Glob.at_ HG0.out (by repeat (first | (with_reducible first | exact HB.out | apply below_alloc | apply pw_below_drewN | apply below_drew1 | refine below_set ?_ GE308.out | refine below_set ?_ GE314.out) | exact HB.out)) | exact Glob.at_ HG0.out (Below.refl _ _))) kj3  t315 _ A20.out).mono ?_); rintro e w24 ⟨rfl, hb⟩; have n0_ := Aside0.mk (blk_below (g := gb308) (o := .cells #[.bool true, .int .i64 a0_1, .int .u64 a0_2] 36 (0, 0)) (by (with_reducible repeat (first | refine blk_drewN ?_ _ | refine blk_drew ?_ | refine blk_alloc ?_ _)); exact BK308.out) hb); have n1_ := Aside0.mk (blk_below (g := gb314) (o := .cells #[.bool t310, .int .i64 t311, .int .u64 t312] 36 (0, 0)) (by (with_reducible repeat (first | refine blk_drewN ?_ _ | refine blk_drew ?_ | refine blk_alloc ?_ _)); exact BK314.out) hb); have n2_ := Aside0.mk (below_step (by repeat (first | (with_reducible first | exact HB.out | apply below_alloc | apply pw_below_drewN | apply below_drew1 | refine below_set ?_ GE308.out | refine below_set ?_ GE314.out) | exact HB.out)) hb); clear BK308; clear BK314; clear HB; have BK308 := n0_; have BK314 := n1_; have HB := n2_; clear n0_ n1_ n2_; (try clear hb); (try clear hb2); (try clear hk); (try clear hi)))
              go_ret
              exact ⟨by first | rfl | (simp [errW_none, errW_some] <;> rfl) | (simp [*, errW_none, errW_some] <;> rfl), by repeat (first | (with_reducible first | exact HB.out | apply below_alloc | apply pw_below_drewN | apply below_drew1 | refine below_set ?_ GE308.out | refine below_set ?_ GE314.out) | exact HB.out)⟩
            · rw [if_neg c19] at H
              have c19b0 : (t312 == 0) = false := beq_eq_false_iff_ne.mpr c19
              have c19b1 : (t312 != 0) = true := bne_iff_ne.mpr c19
              obtain rfl := Option.some.inj H
              have hnb25 := NB308_314.out
              have hnc25 := NB314_308.out
              have hcz26_0 : wc.cell? ⟨gb308, 0, none⟩ = some (.bool true) := (blk_cell BK308.out 0).trans rfl
              have hcz26_1 : wc.cell? ⟨gb308, 1, none⟩ = some (.int .i64 a0_1) := (blk_cell BK308.out 1).trans rfl
              have hcz26_2 : wc.cell? ⟨gb308, 2, none⟩ = some (.int .u64 a0_2) := (blk_cell BK308.out 2).trans rfl
              have hfz26_0 := blk_frozen BK308.out 0
              have hfz26_1 := blk_frozen BK308.out 1
              have hfz26_2 := blk_frozen BK308.out 2
              have hcz27_0 : wc.cell? ⟨gb314, 0, none⟩ = some (.bool t310) := (blk_cell BK314.out 0).trans rfl
              have hcz27_1 : wc.cell? ⟨gb314, 1, none⟩ = some (.int .i64 t311) := (blk_cell BK314.out 1).trans rfl
              have hcz27_2 : wc.cell? ⟨gb314, 2, none⟩ = some (.int .u64 t312) := (blk_cell BK314.out 2).trans rfl
              have hfz27_0 := blk_frozen BK314.out 0
              have hfz27_1 := blk_frozen BK314.out 1
              have hfz27_2 := blk_frozen BK314.out 2
              go_wp2
              go_ret
              exact ⟨by first | rfl | (simp [errW_none, errW_some] <;> rfl) | (simp [*, errW_none, errW_some] <;> rfl), by repeat (first | (with_reducible first | exact HB.out | apply below_alloc | apply pw_below_drewN | apply below_drew1 | refine below_set ?_ GE308.out | refine below_set ?_ GE314.out) | exact HB.out)⟩
          · rw [if_neg c18] at H
            have c18b0 : (t311 == a0_1) = false := beq_eq_false_iff_ne.mpr c18
            have c18b1 : (t311 != a0_1) = true := bne_iff_ne.mpr c18
            obtain rfl := Option.some.inj H
            have hnb28 := NB308_314.out
            have hnc28 := NB314_308.out
            have hcz29_0 : wc.cell? ⟨gb308, 0, none⟩ = some (.bool true) := (blk_cell BK308.out 0).trans rfl
            have hcz29_1 : wc.cell? ⟨gb308, 1, none⟩ = some (.int .i64 a0_1) := (blk_cell BK308.out 1).trans rfl
            have hcz29_2 : wc.cell? ⟨gb308, 2, none⟩ = some (.int .u64 a0_2) := (blk_cell BK308.out 2).trans rfl
            have hfz29_0 := blk_frozen BK308.out 0
            have hfz29_1 := blk_frozen BK308.out 1
            have hfz29_2 := blk_frozen BK308.out 2
            have hcz30_0 : wc.cell? ⟨gb314, 0, none⟩ = some (.bool t310) := (blk_cell BK314.out 0).trans rfl
            have hcz30_1 : wc.cell? ⟨gb314, 1, none⟩ = some (.int .i64 t311) := (blk_cell BK314.out 1).trans rfl
            have hcz30_2 : wc.cell? ⟨gb314, 2, none⟩ = some (.int .u64 t312) := (blk_cell BK314.out 2).trans rfl
            have hfz30_0 := blk_frozen BK314.out 0
            have hfz30_1 := blk_frozen BK314.out 1
            have hfz30_2 := blk_frozen BK314.out 2
            go_wp2
            go_ret
            exact ⟨by first | rfl | (simp [errW_none, errW_some] <;> rfl) | (simp [*, errW_none, errW_some] <;> rfl), by repeat (first | (with_reducible first | exact HB.out | apply below_alloc | apply pw_below_drewN | apply below_drew1 | refine below_set ?_ GE308.out | refine below_set ?_ GE314.out) | exact HB.out)⟩
        · replace c17 := Bool.eq_false_iff.mpr c17
          subst c17
          have H1 : (if t311 = 0 then ((casketref1_FromFloat.f a0_2).bind fun t316 => (if t312 = t316 then ((casketlaw4_awake.f kj3).bind fun t317 => (some t317)) else (some false))) else (some false)) = some r := by rw [if_neg (show ¬ (false = true) by decide)] at H; exact H
          clear H
          have H := H1
          clear H1
          by_cases c31 : t311 = 0
          · rw [if_pos c31] at H
            have c31b0 : (t311 == 0) = true := beq_iff_eq.mpr c31
            have c31b1 : (t311 != 0) = false := bne_eq_false_iff_eq.mpr c31
            clear c31
            replace H := Option.bind_eq_some_iff.mp H
            obtain ⟨t316, A320, H⟩ := H
            replace H : (if t312 = t316 then ((casketlaw4_awake.f kj3).bind fun t317 => (some t317)) else (some false)) = some r := H
            have A32 := Aside0.mk A320
            clear A320
            by_cases c33 : t312 = t316
            · rw [if_pos c33] at H
              have c33b0 : (t312 == t316) = true := beq_iff_eq.mpr c33
              have c33b1 : (t312 != t316) = false := bne_eq_false_iff_eq.mpr c33
              clear c33
              replace H := Option.bind_eq_some_iff.mp H
              obtain ⟨t317, A340, H⟩ := H
              replace H : (some t317) = some r := H
              have A34 := Aside0.mk A340
              clear A340
              obtain rfl := Option.some.inj H
              have hnb35 := NB308_314.out
              have hnc35 := NB314_308.out
              have hcz36_0 : wc.cell? ⟨gb308, 0, none⟩ = some (.bool false) := (blk_cell BK308.out 0).trans rfl
              have hcz36_1 : wc.cell? ⟨gb308, 1, none⟩ = some (.int .i64 a0_1) := (blk_cell BK308.out 1).trans rfl
              have hcz36_2 : wc.cell? ⟨gb308, 2, none⟩ = some (.int .u64 a0_2) := (blk_cell BK308.out 2).trans rfl
              have hfz36_0 := blk_frozen BK308.out 0
              have hfz36_1 := blk_frozen BK308.out 1
              have hfz36_2 := blk_frozen BK308.out 2
              try go_wp2
              have n0_ := Aside0.mk (blk_drew BK308.out)
              have n1_ := Aside0.mk (blk_drew BK314.out)
              have n2_ := Aside0.mk (below_drew1 HB.out)
              clear BK308
              clear BK314
              clear HB
              have BK308 := n0_
              have BK314 := n1_
              have HB := n2_
              clear n0_ n1_ n2_
              refine start_ (n := 15) (S := fun w' => w'.cell? ⟨gb314, 0, none⟩ = some (.bool t310) ∧ w'.cell? ⟨gb314, 1, none⟩ = some (.int .i64 t311) ∧ w'.cell? ⟨gb314, 2, none⟩ = some (.int .u64 t312) ∧ w'.cell? ⟨gb308, 0, none⟩ = some (.bool false) ∧ w'.cell? ⟨gb308, 1, none⟩ = some (.int .i64 a0_1) ∧ w'.cell? ⟨gb308, 2, none⟩ = some (.int .u64 a0_2)) (ds := []) #[false, false, false, false, false, false, false, false, false, false, false, false, false, false, false] (by kernel_rfl) rfl rfl ⟨(blk_cell BK314.out 0).trans rfl, (blk_cell BK314.out 1).trans rfl, (blk_cell BK314.out 2).trans rfl, (blk_cell BK308.out 0).trans rfl, (blk_cell BK308.out 1).trans rfl, (blk_cell BK308.out 2).trans rfl⟩ (fun hHeld => ?_); refine with_tabW casketlaw4_TextKinds.tab6 casketlaw4_TextKinds.bits6 (fun HT_ HW_ => ?_)
              generalize wc.drew = w37 at BK308 BK314 HB hHeld ⊢
              refine pure_ (i := 0) (N := some 35) (v := ?_) (a' := ?_) #[true, false, false, false, false, false, false, false, false, false, false, false, false, false, false] rfl rfl (any_of HT_.out (by kernel_rfl)) (fun _ _ _ h => h) (Or.inl ⟨by rfl, ?_⟩) ?_ ?_
              rotate_left
              · intro w'
                go_simp
                with_reducible rfl
              rotate_left
              · simp only [Act.put, List.setIfInBounds_toArray, List.set_cons_zero, List.set_cons_succ, i64_w, i32_w]
                rfl
              refine take_ (i := 1) (N := some 36) (v := ?_) (a' := ?_) #[true, true, false, false, false, false, false, false, false, false, false, false, false, false, false] rfl rfl (take_ofW HT_.out HW_.out (by kernel_rfl)) (fun _ _ _ h => h) (Or.inl ⟨by rfl, ?_⟩) hHeld ?_ ?_
              rotate_left
              · rintro w' ⟨s0, s1, s2, s3, s4, s5⟩
                go_simp
                with_reducible rfl
              rotate_left
              · simp only [Act.put, List.setIfInBounds_toArray, List.set_cons_zero, List.set_cons_succ, i64_w, i32_w]
                rfl
              refine pure_ (i := 2) (N := some 37) (v := ?_) (a' := ?_) #[true, true, true, false, false, false, false, false, false, false, false, false, false, false, false] rfl rfl (any_of HT_.out (by kernel_rfl)) (fun _ _ _ h => h) (Or.inl ⟨by rfl, ?_⟩) ?_ ?_
              rotate_left
              · intro w'
                go_simp
                with_reducible rfl
              rotate_left
              · simp only [Act.put, List.setIfInBounds_toArray, List.set_cons_zero, List.set_cons_succ, i64_w, i32_w]
                rfl
              refine pure_ (i := 3) (N := some 38) (v := ?_) (a' := ?_) #[true, true, true, true, false, false, false, false, false, false, false, false, false, false, false] rfl rfl (any_of HT_.out (by kernel_rfl)) (fun _ _ _ h => h) (Or.inl ⟨by rfl, ?_⟩) ?_ ?_
              rotate_left
              · intro w'
                go_simp
                with_reducible rfl
              rotate_left
              · simp only [Act.put, List.setIfInBounds_toArray, List.set_cons_zero, List.set_cons_succ, i64_w, i32_w]
                rfl
              refine pure_ (i := 4) (N := some 39) (v := ?_) (a' := ?_) #[true, true, true, true, true, false, false, false, false, false, false, false, false, false, false] rfl rfl (any_of HT_.out (by kernel_rfl)) (fun _ _ _ h => h) (Or.inl ⟨by rfl, ?_⟩) ?_ ?_
              rotate_left
              · intro w'
                go_simp
                with_reducible rfl
              rotate_left
              · simp only [Act.put, List.setIfInBounds_toArray, List.set_cons_zero, List.set_cons_succ, i64_w, i32_w]
                rfl
              refine pure_ (i := 6) (N := some 41) (v := ?_) (a' := ?_) #[true, true, true, true, true, false, true, false, false, false, false, false, false, false, false] rfl rfl (any_of HT_.out (by kernel_rfl)) (fun _ _ _ h => h) (Or.inl ⟨by rfl, ?_⟩) ?_ ?_
              rotate_left
              · intro w'
                go_simp
                with_reducible rfl
              rotate_left
              · simp only [Act.put, List.setIfInBounds_toArray, List.set_cons_zero, List.set_cons_succ, i64_w, i32_w]
                rfl
              refine take_ (i := 5) (N := some 40) (v := ?_) (a' := ?_) #[true, true, true, true, true, true, true, false, false, false, false, false, false, false, false] rfl rfl (take_ofW HT_.out HW_.out (by kernel_rfl)) (fun _ _ _ h => h) (Or.inl ⟨by rfl, ?_⟩) hHeld ?_ ?_
              rotate_left
              · rintro w' ⟨s0, s1, s2, s3, s4, s5⟩
                go_simp
                with_reducible rfl
              rotate_left
              · simp only [Act.put, List.setIfInBounds_toArray, List.set_cons_zero, List.set_cons_succ, i64_w, i32_w]
                rfl
              refine take_ (i := 7) (N := some 42) (v := ?_) (a' := ?_) #[true, true, true, true, true, true, true, true, false, false, false, false, false, false, false] rfl rfl (take_ofW HT_.out HW_.out (by kernel_rfl)) (fun _ _ _ h => h) (Or.inl ⟨by rfl, ?_⟩) hHeld ?_ ?_
              rotate_left
              · rintro w' ⟨s0, s1, s2, s3, s4, s5⟩
                go_simp
                with_reducible rfl
              rotate_left
              · simp only [Act.put, List.setIfInBounds_toArray, List.set_cons_zero, List.set_cons_succ, i64_w, i32_w]
                rfl
              refine one_ (i := 8) (N := some 43) #[true, true, true, true, true, true, true, true, true, false, false, false, false, false, false] rfl rfl (one_of HT_.out (by kernel_rfl)) (by decide) (fun K hK => ?_)
              refine goes_ Tryd.func24 (by kernel_rfl) rfl #[.int .u64 a0_2] (by rfl) rfl rfl (by (try simp only [List.map_toArray, List.map_cons, List.map_nil]); first | done | rfl | (simp only [List.length_drop, List.length_take]; rfl)) ?_
              with_reducible refine (casketref1_FromFloat.calls a0_2 t316 _ A32.out).mono ?_
              rintro e w' ⟨rfl, ⟨nd, rfl⟩⟩
              refine ⟨_, rfl, ?_⟩
              refine hK.out _ _ ⟨(blk_cell BK314.out 0).trans rfl, (blk_cell BK314.out 1).trans rfl, (blk_cell BK314.out 2).trans rfl, (blk_cell BK308.out 0).trans rfl, (blk_cell BK308.out 1).trans rfl, (blk_cell BK308.out 2).trans rfl⟩ (fun hHeld => ?_)
              clear hK K
              refine norm_ (a' := ?_) ?_ ?_
              rotate_left
              · show Act.put _ (some 43) _ = _
                simp only [Act.put, List.setIfInBounds_toArray, List.set_cons_zero, List.set_cons_succ, i64_w, i32_w]
                rfl
              refine pure_ (i := 9) (N := some 44) (v := ?_) (a' := ?_) #[true, true, true, true, true, true, true, true, true, true, false, false, false, false, false] rfl rfl (any_of HT_.out (by kernel_rfl)) (fun _ _ _ h => h) (Or.inl ⟨by rfl, ?_⟩) ?_ ?_
              rotate_left
              · intro w'
                go_simp
                with_reducible rfl
              rotate_left
              · simp only [Act.put, List.setIfInBounds_toArray, List.set_cons_zero, List.set_cons_succ, i64_w, i32_w]
                rfl
              refine pure_ (i := 10) (N := some 45) (v := ?_) (a' := ?_) #[true, true, true, true, true, true, true, true, true, true, true, false, false, false, false] rfl rfl (any_of HT_.out (by kernel_rfl)) (fun _ _ _ h => h) (Or.inl ⟨by rfl, ?_⟩) ?_ ?_
              rotate_left
              · intro w'
                go_simp
                with_reducible rfl
              rotate_left
              · simp only [Act.put, List.setIfInBounds_toArray, List.set_cons_zero, List.set_cons_succ, i64_w, i32_w]
                rfl
              refine pure_ (i := 11) (N := some 46) (v := ?_) (a' := ?_) #[true, true, true, true, true, true, true, true, true, true, true, true, false, false, false] rfl rfl (any_of HT_.out (by kernel_rfl)) (fun _ _ _ h => h) (Or.inl ⟨by rfl, ?_⟩) ?_ ?_
              rotate_left
              · intro w'
                go_simp
                with_reducible rfl
              rotate_left
              · simp only [Act.put, List.setIfInBounds_toArray, List.set_cons_zero, List.set_cons_succ, i64_w, i32_w]
                rfl
              refine one_ (i := 12) (N := some 47) #[true, true, true, true, true, true, true, true, true, true, true, true, true, false, false] rfl rfl (one_of HT_.out (by kernel_rfl)) (by decide) (fun K hK => ?_)
              refine goes_ Tryd.func13 (by kernel_rfl) rfl #[] (by rfl) rfl rfl (by (try simp only [List.map_toArray, List.map_cons, List.map_nil]); first | done | rfl | (simp only [List.length_drop, List.length_take]; rfl)) ?_
              with_reducible refine (casketlaw4_awake.calls (hG := (by first | exact Glob.at_ HG0.out (by repeat (first | (with_reducible first | exact HB.out | apply below_alloc | apply pw_below_drewN | apply below_drew1 | refine below_set ?_ GE308.out | refine below_set ?_ GE314.out) | exact HB.out)) | exact Glob.at_ HG0.out (Below.refl _ _))) kj3  t317 _ A34.out).mono ?_
              rintro e w38 ⟨rfl, hb⟩
              refine ⟨_, rfl, ?_⟩
              have n0_ := Aside0.mk (blk_below (g := gb308) (o := .cells #[.bool false, .int .i64 a0_1, .int .u64 a0_2] 36 (0, 0)) (by (with_reducible repeat (first | refine blk_drewN ?_ _ | refine blk_drew ?_ | refine blk_alloc ?_ _)); exact BK308.out) hb)
              have n1_ := Aside0.mk (blk_below (g := gb314) (o := .cells #[.bool t310, .int .i64 t311, .int .u64 t312] 36 (0, 0)) (by (with_reducible repeat (first | refine blk_drewN ?_ _ | refine blk_drew ?_ | refine blk_alloc ?_ _)); exact BK314.out) hb)
              have n2_ := Aside0.mk (below_step (by repeat (first | (with_reducible first | exact HB.out | apply below_alloc | apply pw_below_drewN | apply below_drew1 | refine below_set ?_ GE308.out | refine below_set ?_ GE314.out) | exact HB.out)) hb)
              clear BK308
              clear BK314
              clear HB
              have BK308 := n0_
              have BK314 := n1_
              have HB := n2_
              clear n0_ n1_ n2_
              (try clear hb)
              (try clear hb2)
              (try clear hk)
              (try clear hi)
              refine hK.out _ _ ⟨(blk_cell BK314.out 0).trans rfl, (blk_cell BK314.out 1).trans rfl, (blk_cell BK314.out 2).trans rfl, (blk_cell BK308.out 0).trans rfl, (blk_cell BK308.out 1).trans rfl, (blk_cell BK308.out 2).trans rfl⟩ (fun hHeld => ?_)
              clear hK K
              refine norm_ (a' := ?_) ?_ ?_
              rotate_left
              · show Act.put _ (some 47) _ = _
                simp only [Act.put, List.setIfInBounds_toArray, List.set_cons_zero, List.set_cons_succ, i64_w, i32_w]
                rfl
              refine pure_ (i := 13) (N := some 48) (v := ?_) (a' := ?_) #[true, true, true, true, true, true, true, true, true, true, true, true, true, true, false] rfl rfl (any_of HT_.out (by kernel_rfl)) (fun _ _ _ h => h) (Or.inl ⟨by rfl, ?_⟩) ?_ ?_
              rotate_left
              · intro w'
                go_simp
                with_reducible rfl
              rotate_left
              · simp only [Act.put, List.setIfInBounds_toArray, List.set_cons_zero, List.set_cons_succ, i64_w, i32_w]
                rfl
              refine pure_ (i := 14) (N := some 2) (v := ?_) (a' := ?_) #[true, true, true, true, true, true, true, true, true, true, true, true, true, true, true] rfl rfl (any_of HT_.out (by kernel_rfl)) (fun _ _ _ h => h) (Or.inl ⟨by rfl, ?_⟩) ?_ ?_
              rotate_left
              · intro w'
                go_simp
                with_reducible rfl
              rotate_left
              · simp only [Act.put, List.setIfInBounds_toArray, List.set_cons_zero, List.set_cons_succ, i64_w, i32_w]
                rfl
              refine done_ (done_of HT_.out (by kernel_rfl)) ?_
              try go_wp2
              go_ret
              exact ⟨by first | rfl | (simp [errW_none, errW_some] <;> rfl) | (simp [*, errW_none, errW_some] <;> rfl), by repeat (first | (with_reducible first | exact HB.out | apply below_alloc | apply pw_below_drewN | apply below_drew1 | refine below_set ?_ GE308.out | refine below_set ?_ GE314.out) | exact HB.out)⟩
            · rw [if_neg c33] at H
              have c33b0 : (t312 == t316) = false := beq_eq_false_iff_ne.mpr c33
              have c33b1 : (t312 != t316) = true := bne_iff_ne.mpr c33
              obtain rfl := Option.some.inj H
              have hnb39 := NB308_314.out
              have hnc39 := NB314_308.out
              have hcz40_0 : wc.cell? ⟨gb308, 0, none⟩ = some (.bool false) := (blk_cell BK308.out 0).trans rfl
              have hcz40_1 : wc.cell? ⟨gb308, 1, none⟩ = some (.int .i64 a0_1) := (blk_cell BK308.out 1).trans rfl
              have hcz40_2 : wc.cell? ⟨gb308, 2, none⟩ = some (.int .u64 a0_2) := (blk_cell BK308.out 2).trans rfl
              have hfz40_0 := blk_frozen BK308.out 0
              have hfz40_1 := blk_frozen BK308.out 1
              have hfz40_2 := blk_frozen BK308.out 2
              try go_wp2
              have n0_ := Aside0.mk (blk_drew BK308.out)
              have n1_ := Aside0.mk (blk_drew BK314.out)
              have n2_ := Aside0.mk (below_drew1 HB.out)
              clear BK308
              clear BK314
              clear HB
              have BK308 := n0_
              have BK314 := n1_
              have HB := n2_
              clear n0_ n1_ n2_
              refine start_ (n := 15) (S := fun w' => w'.cell? ⟨gb314, 0, none⟩ = some (.bool t310) ∧ w'.cell? ⟨gb314, 1, none⟩ = some (.int .i64 t311) ∧ w'.cell? ⟨gb314, 2, none⟩ = some (.int .u64 t312) ∧ w'.cell? ⟨gb308, 0, none⟩ = some (.bool false) ∧ w'.cell? ⟨gb308, 1, none⟩ = some (.int .i64 a0_1) ∧ w'.cell? ⟨gb308, 2, none⟩ = some (.int .u64 a0_2)) (ds := []) #[false, false, false, false, false, false, false, false, false, false, false, false, false, false, false] (by kernel_rfl) rfl rfl ⟨(blk_cell BK314.out 0).trans rfl, (blk_cell BK314.out 1).trans rfl, (blk_cell BK314.out 2).trans rfl, (blk_cell BK308.out 0).trans rfl, (blk_cell BK308.out 1).trans rfl, (blk_cell BK308.out 2).trans rfl⟩ (fun hHeld => ?_); refine with_tabW casketlaw4_TextKinds.tab6 casketlaw4_TextKinds.bits6 (fun HT_ HW_ => ?_)
              generalize wc.drew = w41 at BK308 BK314 HB hHeld ⊢
              refine pure_ (i := 0) (N := some 35) (v := ?_) (a' := ?_) #[true, false, false, false, false, false, false, false, false, false, false, false, false, false, false] rfl rfl (any_of HT_.out (by kernel_rfl)) (fun _ _ _ h => h) (Or.inl ⟨by rfl, ?_⟩) ?_ ?_
              rotate_left
              · intro w'
                go_simp
                with_reducible rfl
              rotate_left
              · simp only [Act.put, List.setIfInBounds_toArray, List.set_cons_zero, List.set_cons_succ, i64_w, i32_w]
                rfl
              refine take_ (i := 1) (N := some 36) (v := ?_) (a' := ?_) #[true, true, false, false, false, false, false, false, false, false, false, false, false, false, false] rfl rfl (take_ofW HT_.out HW_.out (by kernel_rfl)) (fun _ _ _ h => h) (Or.inl ⟨by rfl, ?_⟩) hHeld ?_ ?_
              rotate_left
              · rintro w' ⟨s0, s1, s2, s3, s4, s5⟩
                go_simp
                with_reducible rfl
              rotate_left
              · simp only [Act.put, List.setIfInBounds_toArray, List.set_cons_zero, List.set_cons_succ, i64_w, i32_w]
                rfl
              refine pure_ (i := 2) (N := some 37) (v := ?_) (a' := ?_) #[true, true, true, false, false, false, false, false, false, false, false, false, false, false, false] rfl rfl (any_of HT_.out (by kernel_rfl)) (fun _ _ _ h => h) (Or.inl ⟨by rfl, ?_⟩) ?_ ?_
              rotate_left
              · intro w'
                go_simp
                with_reducible rfl
              rotate_left
              · simp only [Act.put, List.setIfInBounds_toArray, List.set_cons_zero, List.set_cons_succ, i64_w, i32_w]
                rfl
              refine pure_ (i := 3) (N := some 38) (v := ?_) (a' := ?_) #[true, true, true, true, false, false, false, false, false, false, false, false, false, false, false] rfl rfl (any_of HT_.out (by kernel_rfl)) (fun _ _ _ h => h) (Or.inl ⟨by rfl, ?_⟩) ?_ ?_
              rotate_left
              · intro w'
                go_simp
                with_reducible rfl
              rotate_left
              · simp only [Act.put, List.setIfInBounds_toArray, List.set_cons_zero, List.set_cons_succ, i64_w, i32_w]
                rfl
              refine pure_ (i := 4) (N := some 39) (v := ?_) (a' := ?_) #[true, true, true, true, true, false, false, false, false, false, false, false, false, false, false] rfl rfl (any_of HT_.out (by kernel_rfl)) (fun _ _ _ h => h) (Or.inl ⟨by rfl, ?_⟩) ?_ ?_
              rotate_left
              · intro w'
                go_simp
                with_reducible rfl
              rotate_left
              · simp only [Act.put, List.setIfInBounds_toArray, List.set_cons_zero, List.set_cons_succ, i64_w, i32_w]
                rfl
              refine pure_ (i := 6) (N := some 41) (v := ?_) (a' := ?_) #[true, true, true, true, true, false, true, false, false, false, false, false, false, false, false] rfl rfl (any_of HT_.out (by kernel_rfl)) (fun _ _ _ h => h) (Or.inl ⟨by rfl, ?_⟩) ?_ ?_
              rotate_left
              · intro w'
                go_simp
                with_reducible rfl
              rotate_left
              · simp only [Act.put, List.setIfInBounds_toArray, List.set_cons_zero, List.set_cons_succ, i64_w, i32_w]
                rfl
              refine take_ (i := 5) (N := some 40) (v := ?_) (a' := ?_) #[true, true, true, true, true, true, true, false, false, false, false, false, false, false, false] rfl rfl (take_ofW HT_.out HW_.out (by kernel_rfl)) (fun _ _ _ h => h) (Or.inl ⟨by rfl, ?_⟩) hHeld ?_ ?_
              rotate_left
              · rintro w' ⟨s0, s1, s2, s3, s4, s5⟩
                go_simp
                with_reducible rfl
              rotate_left
              · simp only [Act.put, List.setIfInBounds_toArray, List.set_cons_zero, List.set_cons_succ, i64_w, i32_w]
                rfl
              refine take_ (i := 7) (N := some 42) (v := ?_) (a' := ?_) #[true, true, true, true, true, true, true, true, false, false, false, false, false, false, false] rfl rfl (take_ofW HT_.out HW_.out (by kernel_rfl)) (fun _ _ _ h => h) (Or.inl ⟨by rfl, ?_⟩) hHeld ?_ ?_
              rotate_left
              · rintro w' ⟨s0, s1, s2, s3, s4, s5⟩
                go_simp
                with_reducible rfl
              rotate_left
              · simp only [Act.put, List.setIfInBounds_toArray, List.set_cons_zero, List.set_cons_succ, i64_w, i32_w]
                rfl
              refine one_ (i := 8) (N := some 43) #[true, true, true, true, true, true, true, true, true, false, false, false, false, false, false] rfl rfl (one_of HT_.out (by kernel_rfl)) (by decide) (fun K hK => ?_)
              refine goes_ Tryd.func24 (by kernel_rfl) rfl #[.int .u64 a0_2] (by rfl) rfl rfl (by (try simp only [List.map_toArray, List.map_cons, List.map_nil]); first | done | rfl | (simp only [List.length_drop, List.length_take]; rfl)) ?_
              with_reducible refine (casketref1_FromFloat.calls a0_2 t316 _ A32.out).mono ?_
              rintro e w' ⟨rfl, ⟨nd, rfl⟩⟩
              refine ⟨_, rfl, ?_⟩
              refine hK.out _ _ ⟨(blk_cell BK314.out 0).trans rfl, (blk_cell BK314.out 1).trans rfl, (blk_cell BK314.out 2).trans rfl, (blk_cell BK308.out 0).trans rfl, (blk_cell BK308.out 1).trans rfl, (blk_cell BK308.out 2).trans rfl⟩ (fun hHeld => ?_)
              clear hK K
              refine norm_ (a' := ?_) ?_ ?_
              rotate_left
              · show Act.put _ (some 43) _ = _
                simp only [Act.put, List.setIfInBounds_toArray, List.set_cons_zero, List.set_cons_succ, i64_w, i32_w]
                rfl
              refine pure_ (i := 9) (N := some 44) (v := ?_) (a' := ?_) #[true, true, true, true, true, true, true, true, true, true, false, false, false, false, false] rfl rfl (any_of HT_.out (by kernel_rfl)) (fun _ _ _ h => h) (Or.inl ⟨by rfl, ?_⟩) ?_ ?_
              rotate_left
              · intro w'
                go_simp
                with_reducible rfl
              rotate_left
              · simp only [Act.put, List.setIfInBounds_toArray, List.set_cons_zero, List.set_cons_succ, i64_w, i32_w]
                rfl
              refine pure_ (i := 10) (N := some 45) (v := ?_) (a' := ?_) #[true, true, true, true, true, true, true, true, true, true, true, false, false, false, false] rfl rfl (any_of HT_.out (by kernel_rfl)) (fun _ _ _ h => h) (Or.inl ⟨by rfl, ?_⟩) ?_ ?_
              rotate_left
              · intro w'
                go_simp
                with_reducible rfl
              rotate_left
              · simp only [Act.put, List.setIfInBounds_toArray, List.set_cons_zero, List.set_cons_succ, i64_w, i32_w]
                rfl
              refine pure_ (i := 11) (N := some 46) (v := ?_) (a' := ?_) #[true, true, true, true, true, true, true, true, true, true, true, true, false, false, false] rfl rfl (any_of HT_.out (by kernel_rfl)) (fun _ _ _ h => h) (Or.inl ⟨by rfl, ?_⟩) ?_ ?_
              rotate_left
              · intro w'
                go_simp
                with_reducible rfl
              rotate_left
              · simp only [Act.put, List.setIfInBounds_toArray, List.set_cons_zero, List.set_cons_succ, i64_w, i32_w]
                rfl
              refine pure_ (i := 12) (N := some 47) (v := undef) (a' := ?_) #[true, true, true, true, true, true, true, true, true, true, true, true, true, false, false] rfl rfl (any_of HT_.out (by kernel_rfl)) (fun _ _ _ h => h) (Or.inr ⟨by rfl, rfl⟩) ?_ ?_
              rotate_left
              · simp only [Act.put, List.setIfInBounds_toArray, List.set_cons_zero, List.set_cons_succ, i64_w, i32_w]
                rfl
              refine pure_ (i := 13) (N := some 48) (v := ?_) (a' := ?_) #[true, true, true, true, true, true, true, true, true, true, true, true, true, true, false] rfl rfl (any_of HT_.out (by kernel_rfl)) (fun _ _ _ h => h) (Or.inl ⟨by rfl, ?_⟩) ?_ ?_
              rotate_left
              · intro w'
                go_simp
                with_reducible rfl
              rotate_left
              · simp only [Act.put, List.setIfInBounds_toArray, List.set_cons_zero, List.set_cons_succ, i64_w, i32_w]
                rfl
              refine pure_ (i := 14) (N := some 2) (v := ?_) (a' := ?_) #[true, true, true, true, true, true, true, true, true, true, true, true, true, true, true] rfl rfl (any_of HT_.out (by kernel_rfl)) (fun _ _ _ h => h) (Or.inl ⟨by rfl, ?_⟩) ?_ ?_
              rotate_left
              · intro w'
                go_simp
                with_reducible rfl
              rotate_left
              · simp only [Act.put, List.setIfInBounds_toArray, List.set_cons_zero, List.set_cons_succ, i64_w, i32_w]
                rfl
              refine done_ (done_of HT_.out (by kernel_rfl)) ?_
              try go_wp2
              go_ret
              exact ⟨by first | rfl | (simp [errW_none, errW_some] <;> rfl) | (simp [*, errW_none, errW_some] <;> rfl), by repeat (first | (with_reducible first | exact HB.out | apply below_alloc | apply pw_below_drewN | apply below_drew1 | refine below_set ?_ GE308.out | refine below_set ?_ GE314.out) | exact HB.out)⟩
          · rw [if_neg c31] at H
            have c31b0 : (t311 == 0) = false := beq_eq_false_iff_ne.mpr c31
            have c31b1 : (t311 != 0) = true := bne_iff_ne.mpr c31
            obtain rfl := Option.some.inj H
            have hnb42 := NB308_314.out
            have hnc42 := NB314_308.out
            have hcz43_0 : wc.cell? ⟨gb308, 0, none⟩ = some (.bool false) := (blk_cell BK308.out 0).trans rfl
            have hcz43_1 : wc.cell? ⟨gb308, 1, none⟩ = some (.int .i64 a0_1) := (blk_cell BK308.out 1).trans rfl
            have hcz43_2 : wc.cell? ⟨gb308, 2, none⟩ = some (.int .u64 a0_2) := (blk_cell BK308.out 2).trans rfl
            have hfz43_0 := blk_frozen BK308.out 0
            have hfz43_1 := blk_frozen BK308.out 1
            have hfz43_2 := blk_frozen BK308.out 2
            try go_wp2
            have n0_ := Aside0.mk (blk_drew BK308.out)
            have n1_ := Aside0.mk (blk_drew BK314.out)
            have n2_ := Aside0.mk (below_drew1 HB.out)
            clear BK308
            clear BK314
            clear HB
            have BK308 := n0_
            have BK314 := n1_
            have HB := n2_
            clear n0_ n1_ n2_
            refine start_ (n := 15) (S := fun w' => w'.cell? ⟨gb314, 0, none⟩ = some (.bool t310) ∧ w'.cell? ⟨gb314, 1, none⟩ = some (.int .i64 t311) ∧ w'.cell? ⟨gb314, 2, none⟩ = some (.int .u64 t312)) (ds := []) #[false, false, false, false, false, false, false, false, false, false, false, false, false, false, false] (by kernel_rfl) rfl rfl ⟨(blk_cell BK314.out 0).trans rfl, (blk_cell BK314.out 1).trans rfl, (blk_cell BK314.out 2).trans rfl⟩ (fun hHeld => ?_); refine with_tabW casketlaw4_TextKinds.tab6 casketlaw4_TextKinds.bits6 (fun HT_ HW_ => ?_)
            generalize wc.drew = w44 at BK308 BK314 HB hHeld ⊢
            refine pure_ (i := 0) (N := some 35) (v := ?_) (a' := ?_) #[true, false, false, false, false, false, false, false, false, false, false, false, false, false, false] rfl rfl (any_of HT_.out (by kernel_rfl)) (fun _ _ _ h => h) (Or.inl ⟨by rfl, ?_⟩) ?_ ?_
            rotate_left
            · intro w'
              go_simp
              with_reducible rfl
            rotate_left
            · simp only [Act.put, List.setIfInBounds_toArray, List.set_cons_zero, List.set_cons_succ, i64_w, i32_w]
              rfl
            refine take_ (i := 1) (N := some 36) (v := ?_) (a' := ?_) #[true, true, false, false, false, false, false, false, false, false, false, false, false, false, false] rfl rfl (take_ofW HT_.out HW_.out (by kernel_rfl)) (fun _ _ _ h => h) (Or.inl ⟨by rfl, ?_⟩) hHeld ?_ ?_
            rotate_left
            · rintro w' ⟨s0, s1, s2⟩
              go_simp
              with_reducible rfl
            rotate_left
            · simp only [Act.put, List.setIfInBounds_toArray, List.set_cons_zero, List.set_cons_succ, i64_w, i32_w]
              rfl
            refine pure_ (i := 2) (N := some 37) (v := ?_) (a' := ?_) #[true, true, true, false, false, false, false, false, false, false, false, false, false, false, false] rfl rfl (any_of HT_.out (by kernel_rfl)) (fun _ _ _ h => h) (Or.inl ⟨by rfl, ?_⟩) ?_ ?_
            rotate_left
            · intro w'
              go_simp
              with_reducible rfl
            rotate_left
            · simp only [Act.put, List.setIfInBounds_toArray, List.set_cons_zero, List.set_cons_succ, i64_w, i32_w]
              rfl
            refine pure_ (i := 3) (N := some 38) (v := ?_) (a' := ?_) #[true, true, true, true, false, false, false, false, false, false, false, false, false, false, false] rfl rfl (any_of HT_.out (by kernel_rfl)) (fun _ _ _ h => h) (Or.inl ⟨by rfl, ?_⟩) ?_ ?_
            rotate_left
            · intro w'
              go_simp
              with_reducible rfl
            rotate_left
            · simp only [Act.put, List.setIfInBounds_toArray, List.set_cons_zero, List.set_cons_succ, i64_w, i32_w]
              rfl
            refine pure_ (i := 4) (N := some 39) (v := undef) (a' := ?_) #[true, true, true, true, true, false, false, false, false, false, false, false, false, false, false] rfl rfl (any_of HT_.out (by kernel_rfl)) (fun _ _ _ h => h) (Or.inr ⟨by rfl, rfl⟩) ?_ ?_
            rotate_left
            · simp only [Act.put, List.setIfInBounds_toArray, List.set_cons_zero, List.set_cons_succ, i64_w, i32_w]
              rfl
            refine pure_ (i := 5) (N := some 40) (v := undef) (a' := ?_) #[true, true, true, true, true, true, false, false, false, false, false, false, false, false, false] rfl rfl (any_of HT_.out (by kernel_rfl)) (fun _ _ _ h => h) (Or.inr ⟨by rfl, rfl⟩) ?_ ?_
            rotate_left
            · simp only [Act.put, List.setIfInBounds_toArray, List.set_cons_zero, List.set_cons_succ, i64_w, i32_w]
              rfl
            refine pure_ (i := 6) (N := some 41) (v := undef) (a' := ?_) #[true, true, true, true, true, true, true, false, false, false, false, false, false, false, false] rfl rfl (any_of HT_.out (by kernel_rfl)) (fun _ _ _ h => h) (Or.inr ⟨by rfl, rfl⟩) ?_ ?_
            rotate_left
            · simp only [Act.put, List.setIfInBounds_toArray, List.set_cons_zero, List.set_cons_succ, i64_w, i32_w]
              rfl
            refine pure_ (i := 7) (N := some 42) (v := undef) (a' := ?_) #[true, true, true, true, true, true, true, true, false, false, false, false, false, false, false] rfl rfl (any_of HT_.out (by kernel_rfl)) (fun _ _ _ h => h) (Or.inr ⟨by rfl, rfl⟩) ?_ ?_
            rotate_left
            · simp only [Act.put, List.setIfInBounds_toArray, List.set_cons_zero, List.set_cons_succ, i64_w, i32_w]
              rfl
            refine pure_ (i := 8) (N := some 43) (v := undef) (a' := ?_) #[true, true, true, true, true, true, true, true, true, false, false, false, false, false, false] rfl rfl (any_of HT_.out (by kernel_rfl)) (fun _ _ _ h => h) (Or.inr ⟨by rfl, rfl⟩) ?_ ?_
            rotate_left
            · simp only [Act.put, List.setIfInBounds_toArray, List.set_cons_zero, List.set_cons_succ, i64_w, i32_w]
              rfl
            refine pure_ (i := 9) (N := some 44) (v := undef) (a' := ?_) #[true, true, true, true, true, true, true, true, true, true, false, false, false, false, false] rfl rfl (any_of HT_.out (by kernel_rfl)) (fun _ _ _ h => h) (Or.inr ⟨by rfl, rfl⟩) ?_ ?_
            rotate_left
            · simp only [Act.put, List.setIfInBounds_toArray, List.set_cons_zero, List.set_cons_succ, i64_w, i32_w]
              rfl
            refine pure_ (i := 10) (N := some 45) (v := ?_) (a' := ?_) #[true, true, true, true, true, true, true, true, true, true, true, false, false, false, false] rfl rfl (any_of HT_.out (by kernel_rfl)) (fun _ _ _ h => h) (Or.inl ⟨by rfl, ?_⟩) ?_ ?_
            rotate_left
            · intro w'
              go_simp
              with_reducible rfl
            rotate_left
            · simp only [Act.put, List.setIfInBounds_toArray, List.set_cons_zero, List.set_cons_succ, i64_w, i32_w]
              rfl
            refine pure_ (i := 11) (N := some 46) (v := ?_) (a' := ?_) #[true, true, true, true, true, true, true, true, true, true, true, true, false, false, false] rfl rfl (any_of HT_.out (by kernel_rfl)) (fun _ _ _ h => h) (Or.inl ⟨by rfl, ?_⟩) ?_ ?_
            rotate_left
            · intro w'
              go_simp
              with_reducible rfl
            rotate_left
            · simp only [Act.put, List.setIfInBounds_toArray, List.set_cons_zero, List.set_cons_succ, i64_w, i32_w]
              rfl
            refine pure_ (i := 12) (N := some 47) (v := undef) (a' := ?_) #[true, true, true, true, true, true, true, true, true, true, true, true, true, false, false] rfl rfl (any_of HT_.out (by kernel_rfl)) (fun _ _ _ h => h) (Or.inr ⟨by rfl, rfl⟩) ?_ ?_
            rotate_left
            · simp only [Act.put, List.setIfInBounds_toArray, List.set_cons_zero, List.set_cons_succ, i64_w, i32_w]
              rfl
            refine pure_ (i := 13) (N := some 48) (v := ?_) (a' := ?_) #[true, true, true, true, true, true, true, true, true, true, true, true, true, true, false] rfl rfl (any_of HT_.out (by kernel_rfl)) (fun _ _ _ h => h) (Or.inl ⟨by rfl, ?_⟩) ?_ ?_
            rotate_left
            · intro w'
              go_simp
              with_reducible rfl
            rotate_left
            · simp only [Act.put, List.setIfInBounds_toArray, List.set_cons_zero, List.set_cons_succ, i64_w, i32_w]
              rfl
            refine pure_ (i := 14) (N := some 2) (v := ?_) (a' := ?_) #[true, true, true, true, true, true, true, true, true, true, true, true, true, true, true] rfl rfl (any_of HT_.out (by kernel_rfl)) (fun _ _ _ h => h) (Or.inl ⟨by rfl, ?_⟩) ?_ ?_
            rotate_left
            · intro w'
              go_simp
              with_reducible rfl
            rotate_left
            · simp only [Act.put, List.setIfInBounds_toArray, List.set_cons_zero, List.set_cons_succ, i64_w, i32_w]
              rfl
            refine done_ (done_of HT_.out (by kernel_rfl)) ?_
            try go_wp2
            go_ret
            exact ⟨by first | rfl | (simp [errW_none, errW_some] <;> rfl) | (simp [*, errW_none, errW_some] <;> rfl), by repeat (first | (with_reducible first | exact HB.out | apply below_alloc | apply pw_below_drewN | apply below_drew1 | refine below_set ?_ GE308.out | refine below_set ?_ GE314.out) | exact HB.out)⟩

end Go.Proofs.YtjdnneomkocghaaDoor.Print
