/- Packed by a program of this session (wip/tools/pack.py): the declarations of its texts that this claim needs. Not trusted: Lean checks it. -/
import Derived.Test.YtjolkombhdibcaaDoorLonE
section
namespace Go.Proofs.YtjolkombhdibcaaDoor.Print
open Go.RowKit Go.Proofs.YtjolkombhdibcaaDoor.Given Go.Proofs.YtjolkombhdibcaaDoorW.PrintWords Go.Proofs.YtjolkombhdibcaaDoorW.PrintLast Go.Proofs.YtjolkombhdibcaaDoorW.PrintMore
attribute [local go_sem] max2_int min2_int max_two min_two max_three min_three max_four min_four
set_option linter.unusedVariables false
set_option linter.unusedSimpArgs false
attribute [local go_sem high] eqA25 eqA30
theorem x64_28 {p : Prop} (h : p := by first | (with_reducible assumption) | assumption) : p := h
theorem x64_27 {p : Prop} (h : p := by first | rfl | (simp [errW_none, errW_some] <;> rfl) | (simp [*, errW_none, errW_some] <;> rfl)) : p := h
theorem x64_26 {p : Prop} (h : p := by (with_reducible repeat first | apply blk_drewN | apply blk_drew | apply blk_alloc); exact BK420.out) : p := h
theorem x64_25 {p : Prop} (h : p := by (with_reducible repeat first | apply blk_drewN | apply blk_drew | apply blk_alloc); exact BK410.out) : p := h
theorem x64_24 {p : Prop} (h : p := by (with_reducible repeat (first | apply Kd.R_alloc | apply Kd.R_drewN | apply Kd.R_drew)); exact HO_4.out) : p := h
theorem x64_23 {p : Prop} (h : p := by (with_reducible repeat (first | apply Kd.R_alloc | apply Kd.R_drewN | apply Kd.R_drew)); exact HO427.out) : p := h
theorem x64_22 {p : Prop} (h : p := by first | (rw [add_block]; exact hn434_1) | (show (Addr.add _ _).block ≠ _; rw [add_block]; exact hn434_1) | exact hn434_1) : p := h
theorem x64_21 {p : Prop} (h : p := by first | (rw [add_block]; exact hn434_0) | (show (Addr.add _ _).block ≠ _; rw [add_block]; exact hn434_0) | exact hn434_0) : p := h
theorem x64_20 {p : Prop} (h : p := by first | (rw [add_block]; exact hn433_1) | (show (Addr.add _ _).block ≠ _; rw [add_block]; exact hn433_1) | exact hn433_1) : p := h
theorem x64_19 {p : Prop} (h : p := by first | (rw [add_block]; exact hn433_0) | (show (Addr.add _ _).block ≠ _; rw [add_block]; exact hn433_0) | exact hn433_0) : p := h
theorem x64_18 {p : Prop} (h : p := by first | (rw [add_block]; exact hn432_1) | (show (Addr.add _ _).block ≠ _; rw [add_block]; exact hn432_1) | exact hn432_1) : p := h
theorem x64_17 {p : Prop} (h : p := by first | (rw [add_block]; exact hn432_0) | (show (Addr.add _ _).block ≠ _; rw [add_block]; exact hn432_0) | exact hn432_0) : p := h
theorem x64_16 {p : Prop} (h : p := by first | (rw [add_block]; exact hn431_1) | (show (Addr.add _ _).block ≠ _; rw [add_block]; exact hn431_1) | exact hn431_1) : p := h
theorem x64_15 {p : Prop} (h : p := by first | (rw [add_block]; exact hn431_0) | (show (Addr.add _ _).block ≠ _; rw [add_block]; exact hn431_0) | exact hn431_0) : p := h
theorem x64_14 {p : Prop} (h : p := by rw [← hq_]; exact x64_25) : p := h
theorem x64_13 {p : Prop} (h : p := by rw [← hq_]; exact x64_24) : p := h
theorem x64_12 {p : Prop} (h : p := by repeat (first | (with_reducible first | exact HB.out | apply below_alloc | apply pw_below_drewN | apply below_drew1) | exact HB.out)) : p := h
theorem x64_11 {p : Prop} (h : p := by (try simp only [List.map_toArray, List.map_cons, List.map_nil]); first | done | rfl | (simp only [List.length_drop, List.length_take]; rfl)) : p := h
theorem x64_10 {p : Prop} (h : p := by first | exact Kd.R_nil _ _ _ _ _ | exact Kd.N_nil _ _ _ _ _ | exact Kd.V_nil _ _ _ _ _ | exact Kd.Q_nil _ _ _ _ _ | exact Kd.S_nil _ _ _ _ _) : p := h
theorem x64_9 {p : Prop} (h : p := by repeat (first | (with_reducible first | exact HB.out | apply below_alloc | apply pw_below_drewN | apply below_drew1 | refine below_set ?_ GE430.out) | exact HB.out)) : p := h
theorem x64_8 {p : Prop} (h : p := by repeat (first | (with_reducible first | exact HB.out | apply below_alloc | apply pw_below_drewN | apply below_drew1 | refine below_set ?_ GE410.out) | exact HB.out)) : p := h
theorem x64_7 {p : Prop} (h : p := by rw [← hq_]; exact x64_8) : p := h
theorem x64_6 {p : Prop} (h : p := by repeat (first | (with_reducible first | exact HB.out | apply below_alloc | apply pw_below_drewN | apply below_drew1 | refine below_set ?_ GE410.out | refine below_set ?_ GE420.out) | exact HB.out)) : p := h
theorem x64_5 {p : Prop} (h : p := by repeat (first | (with_reducible first | exact HB.out | apply below_alloc | apply pw_below_drewN | apply below_drew1 | refine below_set ?_ GE410.out | refine below_set ?_ GE420.out | refine below_set ?_ GE421.out) | exact HB.out)) : p := h
theorem x64_4 {p : Prop} (h : p := by first | exact Glob.at_ HG0.out x64_9 | exact Glob.at_ HG0.out (Below.refl _ _)) : p := h
theorem x64_3 {p : Prop} (h : p := by (with_reducible repeat (first | apply Kd.R_alloc | apply Kd.R_drewN | apply Kd.R_drew)); exact Kd.R_mono (Kd.R_far (p := ⟨gb421, 1, none⟩) (Kd.R_far (p := ⟨gb421, 0, none⟩) (Kd.R_far (p := ⟨gb420, 4, none⟩) (Kd.R_far (p := ⟨gb420, 3, none⟩) (Kd.R_far (p := ⟨gb420, 2, none⟩) (Kd.R_far (p := ⟨gb420, 1, none⟩) (Kd.R_far (p := ⟨gb420, 0, none⟩) (Kd.R_types (Kd.R_mono HO_4.out (fun k_ hk => (⟨hk, hk.2⟩ : _ ∧ k_ ≠ gb420))) BK421.out (by decide)) (fun _ hk => hk.1.2) (.int .i64 t412)) (fun _ hk => hk.1.2) (.int .i64 t413)) (fun _ hk => hk.1.2) (.string t414)) (fun _ hk => hk.1.2) (.int .i64 t415)) (fun _ hk => hk.1.2) (.int .u64 t416)) (fun _ hk => hk.2) (.int .i64 t418)) (fun _ hk => hk.2) (.int .i64 t419)) (fun _ hk => hk.1.1.2)) : p := h
theorem x64_2 {p : Prop} (h : p := by (with_reducible repeat first | apply blk_drewN | apply blk_drew | apply blk_alloc); refine blk_far ?_ NB410_421.out _; (with_reducible repeat first | apply blk_drewN | apply blk_drew | apply blk_alloc); refine blk_far ?_ NB410_421.out _; (with_reducible repeat first | apply blk_drewN | apply blk_drew | apply blk_alloc); refine blk_far ?_ NB410_420.out _; (with_reducible repeat first | apply blk_drewN | apply blk_drew | apply blk_alloc); refine blk_far ?_ NB410_420.out _; (with_reducible repeat first | apply blk_drewN | apply blk_drew | apply blk_alloc); refine blk_far ?_ NB410_420.out _; (with_reducible repeat first | apply blk_drewN | apply blk_drew | apply blk_alloc); refine blk_far ?_ NB410_420.out _; (with_reducible repeat first | apply blk_drewN | apply blk_drew | apply blk_alloc); refine blk_far ?_ NB410_420.out _; (with_reducible repeat first | apply blk_drewN | apply blk_drew | apply blk_alloc); exact BK410.out) : p := h
theorem x64_1 {p : Prop} (h : p := by (with_reducible repeat first | apply blk_drewN | apply blk_drew | apply blk_alloc); refine blk_put (cs := #[.int .i64 t418, .int .i64 0]) ?_ 1 _ rfl; (with_reducible repeat first | apply blk_drewN | apply blk_drew | apply blk_alloc); refine blk_put (cs := #[.int .i64 0, .int .i64 0]) ?_ 0 _ rfl; (with_reducible repeat first | apply blk_drewN | apply blk_drew | apply blk_alloc); refine blk_far ?_ NB421_420.out _; (with_reducible repeat first | apply blk_drewN | apply blk_drew | apply blk_alloc); refine blk_far ?_ NB421_420.out _; (with_reducible repeat first | apply blk_drewN | apply blk_drew | apply blk_alloc); refine blk_far ?_ NB421_420.out _; (with_reducible repeat first | apply blk_drewN | apply blk_drew | apply blk_alloc); refine blk_far ?_ NB421_420.out _; (with_reducible repeat first | apply blk_drewN | apply blk_drew | apply blk_alloc); refine blk_far ?_ NB421_420.out _; (with_reducible repeat first | apply blk_drewN | apply blk_drew | apply blk_alloc); exact BK421.out) : p := h
theorem x64_0 {p : Prop} (h : p := by (with_reducible repeat first | apply blk_drewN | apply blk_drew | apply blk_alloc); refine blk_far ?_ NB420_421.out _; (with_reducible repeat first | apply blk_drewN | apply blk_drew | apply blk_alloc); refine blk_far ?_ NB420_421.out _; (with_reducible repeat first | apply blk_drewN | apply blk_drew | apply blk_alloc); refine blk_put (cs := #[.int .i64 t412, .int .i64 t413, .string t414, .int .i64 t415, .int .u64 0]) ?_ 4 _ rfl; (with_reducible repeat first | apply blk_drewN | apply blk_drew | apply blk_alloc); refine blk_put (cs := #[.int .i64 t412, .int .i64 t413, .string t414, .int .i64 0, .int .u64 0]) ?_ 3 _ rfl; (with_reducible repeat first | apply blk_drewN | apply blk_drew | apply blk_alloc); refine blk_put (cs := #[.int .i64 t412, .int .i64 t413, .string (⟨#[]⟩ : ByteArray), .int .i64 0, .int .u64 0]) ?_ 2 _ rfl; (with_reducible repeat first | apply blk_drewN | apply blk_drew | apply blk_alloc); refine blk_put (cs := #[.int .i64 t412, .int .i64 0, .string (⟨#[]⟩ : ByteArray), .int .i64 0, .int .u64 0]) ?_ 1 _ rfl; (with_reducible repeat first | apply blk_drewN | apply blk_drew | apply blk_alloc); refine blk_put (cs := #[.int .i64 0, .int .i64 0, .string (⟨#[]⟩ : ByteArray), .int .i64 0, .int .u64 0]) ?_ 0 _ rfl; (with_reducible repeat first | apply blk_drewN | apply blk_drew | apply blk_alloc); exact BK420.out) : p := h
def casketref11_All.l0 : Nat → ByteArray → List (S30) → Int → Option ((List (S30)) × Int × Int)
 | 0, _, _, _ => none
 | k + 1, x0, x4, x5 => (casketref11_Blank.f k x0 x5).bind fun t411 => ((casketref11_Next.f k x0 t411).bind fun bt412 => (if bt412.2.2.2.2.2.2.1 = 0 then (if x4.length < 2932031007402 then ((some (x4 ++ [(⟨bt412.1, bt412.2.1, bt412.2.2.1, bt412.2.2.2.1, bt412.2.2.2.2.1⟩ : S30)] : List (S30))).bind fun y422 => (if bt412.1 = 7 then (some (y422, 0, 0)) else (casketref11_All.l0 k x0 y422 bt412.2.2.2.2.2.1))) else (none)) else (some (([] : List (S30)), bt412.2.2.2.2.2.2.1, bt412.2.2.2.2.2.2.2))))
def casketref11_All.f (k : Nat) (a0 : ByteArray) : Option ((List (S30)) × Int × Int) := if (a0.size : Int) > 65536 then (some (([] : List (S30)), 2, 0)) else (casketref11_All.l0 k a0 ([] : List (S30)) 0)
set_option maxHeartbeats 8000000 in
set_option maxRecDepth 100000 in
theorem casketref11_All.calls (k : Nat) (a0 : ByteArray) (r1 : List (S30)) (r2 : Int) (r3 : Int) (w : World) (h : casketref11_All.f k a0 = some (r1, r2, r3)) :
  Calls Tryd.prog 8 #[.string a0] w fun e w' => ∃ v0_ : Value, e = .returned (.tuple #[v0_, .agg #[.int .i64 r2, .int .i64 r3]]) ∧ Kd.R k30 30 w' w.heap.size (fun _ => True) v0_ r1 ∧ Below w.heap.size w w' := by
 have hu25 := Tryd.underlying25
 have hu30 := Tryd.underlying30
 have HB := Aside0.mk (Below.refl w.heap.size w)
 have H : (if (a0.size : Int) > 65536 then (some (([] : List (S30)), 2, 0)) else (casketref11_All.l0 k a0 ([] : List (S30)) 0)) = some (r1, r2, r3) := h
 clear h
 by_cases c2 : (a0.size : Int) > 65536
 ·rw [if_pos c2] at H
  have c2b0 : decide (65536 < (a0.size : Int)) = true := decide_eq_true c2
  have c2b1 : decide (65536 < a0.size) = true := decide_eq_true (by omega)
  clear c2
  simp only [Option.some.injEq, Prod.mk.injEq] at H
  obtain ⟨rfl, rfl, rfl⟩ := H
  go_enter Tryd.func8, Tryd.ntmps8
  go_wp2_with (first | ((with_reducible refine gate_dst (N := 3) rfl ?_); refine box_event ?hg (N := 3) ?hd (cs := #[.int .i64 0, .int .i64 0]) (t := 25) ?hr ?_; (case hd => rfl); (case hg => rfl); (case hr => first | (go_simp; done) | (go_simp; rfl)); intro gb410 hg w3 hbox hb; have n0_ := Aside0.mk (below_step x64_12 hb); have n1_ := Aside0.mk (hbox); have n2_ := Aside0.mk ((by rw [hg]; exact (below_size x64_12) : w.heap.size ≤ gb410)); have n3_ := Aside0.mk ((by rw [hg]; exact (below_size x64_12) : w.heap.size ≤ gb410)); clear HB; have HB := n0_; have BK410 := n1_; have GW410 := n2_; have GE410 := n3_; clear n0_ n1_ n2_ n3_; clear hb hbox hg; have hcz4_0 : w3.cell? ⟨gb410, 0, none⟩ = some (.int .i64 0) := (blk_cell BK410.out 0).trans rfl; have hcz4_1 : w3.cell? ⟨gb410, 1, none⟩ = some (.int .i64 0) := (blk_cell BK410.out 1).trans rfl; have hfz4_0 := blk_frozen BK410.out 0; have hfz4_1 := blk_frozen BK410.out 1))
  refine bodyPost_ret (results_tc rfl _ _ gb410 25 #[.int .i64 2, .int .i64 0] (0, 0) _ rfl (by (with_reducible repeat first | apply blk_drewN | apply blk_drew | apply blk_alloc); refine blk_put (cs := #[.int .i64 2, .int .i64 0]) ?_ 1 _ rfl; (with_reducible repeat first | apply blk_drewN | apply blk_drew | apply blk_alloc); refine blk_put (cs := #[.int .i64 0, .int .i64 0]) ?_ 0 _ rfl; (with_reducible repeat first | apply blk_drewN | apply blk_drew | apply blk_alloc); exact BK410.out) Tryd.underlying25 rfl (by kernel_rfl)) rfl ?_
  exact ⟨_, x64_27, x64_10, x64_8⟩
 ·rw [if_neg c2] at H
  have c2b0 : decide (65536 < (a0.size : Int)) = false := decide_eq_false c2
  have c2b1 : decide (65536 < a0.size) = false := decide_eq_false (by omega)
  clear c2
  have H' := Aside0.mk H
  clear H
  go_enter Tryd.func8, Tryd.ntmps8
  go_wp2_with (first | ((with_reducible refine gate_dst (N := 3) rfl ?_); refine box_event ?hg (N := 3) ?hd (cs := #[.int .i64 0, .int .i64 0]) (t := 25) ?hr ?_; (case hd => rfl); (case hg => rfl); (case hr => first | (go_simp; done) | (go_simp; rfl)); intro gb410 hg w5 hbox hb; have n0_ := Aside0.mk (below_step x64_12 hb); have n1_ := Aside0.mk (hbox); have n2_ := Aside0.mk ((by rw [hg]; exact (below_size x64_12) : w.heap.size ≤ gb410)); have n3_ := Aside0.mk ((by rw [hg]; exact (below_size x64_12) : w.heap.size ≤ gb410)); clear HB; have HB := n0_; have BK410 := n1_; have GW410 := n2_; have GE410 := n3_; clear n0_ n1_ n2_ n3_; clear hb hbox hg))
  go_loopg [4, 5] k (fun kq v4 v5 w' => ∃ (x4_1 : List (S30)) (x5_1 : Int) (x411000_1 : Int) (x411001_1 : Int), v5 = .int .i64 x5_1 ∧ Aside0 (casketref11_All.l0 kq a0 x4_1 x5_1 = some (r1, r2, r3)) ∧ Aside0 (kq ≤ k) ∧ Aside0 (Kd.R k30 30 w' w.heap.size (fun _ => True) v4 x4_1) ∧ Aside0 (w'.heap[gb410]? = some (.cells #[.int .i64 x411000_1, .int .i64 x411001_1] 25 (0, 0))) ∧ Aside0 (Below w.heap.size w w'))
  case atStart => exact ⟨(([] : List (S30))), (0), (0), (0), (by first | rfl | (simp; done) | (simp [*]; done)), H', ⟨Nat.le_refl _⟩, ⟨x64_10⟩, ⟨x64_25⟩, ⟨x64_8⟩⟩
  case round =>
   clear H'
   obtain ⟨x4_1, x5_1, x411000_1, x411001_1, rfl, HA, HK1, HO_4, BK410, HB⟩ := hrel
   cases gk with
   | zero => exact absurd HA.out (by simp [casketref11_All.l0])
   | succ k1 =>
    have H := HA.out
    clear HA
    simp only [casketref11_All.l0] at H
    replace H := Option.bind_eq_some_iff.mp H
    obtain ⟨t411, A60, H⟩ := H
    replace H : ((casketref11_Next.f k1 a0 t411).bind fun bt412 => (if bt412.2.2.2.2.2.2.1 = 0 then (if x4_1.length < 2932031007402 then ((some (x4_1 ++ [(⟨bt412.1, bt412.2.1, bt412.2.2.1, bt412.2.2.2.1, bt412.2.2.2.2.1⟩ : S30)] : List (S30))).bind fun y422 => (if bt412.1 = 7 then (some (y422, 0, 0)) else (casketref11_All.l0 k1 a0 y422 bt412.2.2.2.2.2.1))) else (none)) else (some (([] : List (S30)), bt412.2.2.2.2.2.2.1, bt412.2.2.2.2.2.2.2)))) = some (r1, r2, r3) := H
    have A6 := Aside0.mk A60
    clear A60
    replace H := Option.bind_eq_some_iff.mp H
    obtain ⟨⟨t412, t413, t414, t415, t416, t417, t418, t419⟩, A70, H⟩ := H
    replace H : (if t418 = 0 then (if x4_1.length < 2932031007402 then ((some (x4_1 ++ [(⟨t412, t413, t414, t415, t416⟩ : S30)] : List (S30))).bind fun y422 => (if t412 = 7 then (some (y422, 0, 0)) else (casketref11_All.l0 k1 a0 y422 t417))) else (none)) else (some (([] : List (S30)), t418, t419))) = some (r1, r2, r3) := H
    have A7 := Aside0.mk A70
    clear A70
    by_cases c8 : t418 = 0
    ·rw [if_pos c8] at H
     have c8b0 : (t418 == 0) = true := beq_iff_eq.mpr c8
     have c8b1 : (t418 != 0) = false := bne_eq_false_iff_eq.mpr c8
     clear c8
     by_cases c9 : x4_1.length < 2932031007402
     ·rw [if_pos c9] at H
      have LMc9 := Aside0.mk c9
      clear c9
      obtain ⟨y422, hy422⟩ : ∃ y_ : List (S30), y_ = (x4_1 ++ [(⟨t412, t413, t414, t415, t416⟩ : S30)]) := ⟨_, rfl⟩
      replace H : (if t412 = 7 then (some (y422, 0, 0)) else (casketref11_All.l0 k1 a0 y422 t417)) = some (r1, r2, r3) := by first | (rw [hy422]; with_reducible exact H) | (have H2_ := (Option.bind_some _ _).symm.trans H; rw [hy422]; with_reducible exact H2_) | (have H2_ := (Option.bind_some _ _).symm.trans H; with_reducible exact H2_) | with_reducible exact H | (rw [hy422]; exact H) | exact H
      have Ny422 := Aside0.mk hy422
      clear hy422
      by_cases c10 : t412 = 7
      ·rw [if_pos c10] at H
       have c10b0 : (t412 == 7) = true := beq_iff_eq.mpr c10
       have c10b1 : (t412 != 7) = false := bne_eq_false_iff_eq.mpr c10
       clear c10
       simp only [Option.some.injEq, Prod.mk.injEq] at H
       obtain ⟨rfl, rfl, rfl⟩ := H
       go_wp2_with (first | ((with_reducible refine gate_callee (f := 15) rfl ?_); refine goesL_ (some 15) rfl rfl Tryd.func15 (by kernel_rfl) rfl #[.string a0, .int .i64 x5_1] rfl x64_11 ?_; (with_reducible refine (casketref11_Blank.calls k1 a0 x5_1 t411 _ A6.out).mono ?_); rintro e w' ⟨rfl, ⟨nd, rfl⟩⟩; refine ⟨_, rfl, ?_⟩; (try (rw [drewN_self wr]; generalize hq_ : World.drewN wr _ = wr; have n0_ : Aside0 (Kd.R k30 30 wr w.heap.size (fun _ => True) u4 x4_1) := ⟨x64_13⟩; have n1_ : Aside0 (wr.heap[gb410]? = some (.cells #[.int .i64 x411000_1, .int .i64 x411001_1] 25 (0, 0))) := ⟨x64_14⟩; have n2_ : Aside0 (Below w.heap.size w wr) := ⟨x64_7⟩; clear HO_4 BK410 HB hq_; have HO_4 := n0_; have BK410 := n1_; have HB := n2_; clear n0_ n1_ n2_))) | ((with_reducible refine gate_callee (f := 16) rfl ?_); refine goesL_ (some 19) rfl rfl Tryd.func16 (by kernel_rfl) rfl #[.string a0, .int .i64 t411] rfl x64_11 ?_; (with_reducible refine (casketref11_Next.calls k1 a0 t411 t412 t413 t414 t415 t416 t417 t418 t419 _ A7.out).mono ?_); rintro e w11 ⟨rfl, hb⟩; refine ⟨_, rfl, ?_⟩; have n0_ := Aside0.mk (Kd.R_below x64_24 hb); have n1_ := Aside0.mk (blk_below (g := gb410) (o := .cells #[.int .i64 x411000_1, .int .i64 x411001_1] 25 (0, 0)) x64_25 hb); have n2_ := Aside0.mk (below_step x64_8 hb); clear HO_4; clear BK410; clear HB; have HO_4 := n0_; have BK410 := n1_; have HB := n2_; clear n0_ n1_ n2_) | ((with_reducible refine gate_dst (N := 6) rfl ?_); refine box_event ?hg (N := 6) ?hd (cs := #[.int .i64 0, .int .i64 0, .string (⟨#[]⟩ : ByteArray), .int .i64 0, .int .u64 0]) (t := 30) ?hr ?_; (case hd => rfl); (case hg => rfl); (case hr => first | (go_simp; done) | (go_simp; rfl)); intro gb420 hg w12 hbox hb; have n0_ := Aside0.mk (Kd.R_below (Kd.R_elderB x64_24 gb420 (Nat.le_of_eq hg.symm)) hb); have n1_ := Aside0.mk (blk_below (g := gb410) (o := .cells #[.int .i64 x411000_1, .int .i64 x411001_1] 25 (0, 0)) x64_25 hb); have n2_ := Aside0.mk (below_step x64_8 hb); have n3_ := Aside0.mk (hbox); have n4_ := Aside0.mk ((by rw [hg]; exact (below_size x64_8) : w.heap.size ≤ gb420)); have n5_ := Aside0.mk ((by rw [hg]; exact (below_size x64_8) : w.heap.size ≤ gb420)); have n6_ := Aside0.mk ((by rw [hg]; exact Nat.ne_of_lt (blk_lt (g := gb410) (o := .cells #[.int .i64 x411000_1, .int .i64 x411001_1] 25 (0, 0)) x64_25) : gb410 ≠ gb420)); have n7_ := Aside0.mk ((by rw [hg]; exact Nat.ne_of_gt (blk_lt (g := gb410) (o := .cells #[.int .i64 x411000_1, .int .i64 x411001_1] 25 (0, 0)) x64_25) : gb420 ≠ gb410)); clear HO_4; clear BK410; clear HB; have HO_4 := n0_; have BK410 := n1_; have HB := n2_; have BK420 := n3_; have GW420 := n4_; have GE420 := n5_; have NB410_420 := n6_; have NB420_410 := n7_; clear n0_ n1_ n2_ n3_ n4_ n5_ n6_ n7_; clear hb hbox hg) | ((with_reducible refine gate_dst (N := 8) rfl ?_); refine box_event ?hg (N := 8) ?hd (cs := #[.int .i64 0, .int .i64 0]) (t := 25) ?hr ?_; (case hd => rfl); (case hg => rfl); (case hr => first | (go_simp; done) | (go_simp; rfl)); intro gb421 hg w13 hbox hb; have n0_ := Aside0.mk (Kd.R_below x64_24 hb); have n1_ := Aside0.mk (blk_below (g := gb410) (o := .cells #[.int .i64 x411000_1, .int .i64 x411001_1] 25 (0, 0)) x64_25 hb); have n2_ := Aside0.mk (blk_below (g := gb420) (o := .cells #[.int .i64 0, .int .i64 0, .string (⟨#[]⟩ : ByteArray), .int .i64 0, .int .u64 0] 30 (0, 0)) x64_26 hb); have n3_ := Aside0.mk (below_step x64_6 hb); have n4_ := Aside0.mk (hbox); have n5_ := Aside0.mk ((by rw [hg]; exact (below_size x64_6) : w.heap.size ≤ gb421)); have n6_ := Aside0.mk ((by rw [hg]; exact (below_size x64_6) : w.heap.size ≤ gb421)); have n7_ := Aside0.mk ((by rw [hg]; exact Nat.ne_of_lt (blk_lt (g := gb410) (o := .cells #[.int .i64 x411000_1, .int .i64 x411001_1] 25 (0, 0)) x64_25) : gb410 ≠ gb421)); have n8_ := Aside0.mk ((by rw [hg]; exact Nat.ne_of_gt (blk_lt (g := gb410) (o := .cells #[.int .i64 x411000_1, .int .i64 x411001_1] 25 (0, 0)) x64_25) : gb421 ≠ gb410)); have n9_ := Aside0.mk ((by rw [hg]; exact Nat.ne_of_lt (blk_lt (g := gb420) (o := .cells #[.int .i64 0, .int .i64 0, .string (⟨#[]⟩ : ByteArray), .int .i64 0, .int .u64 0] 30 (0, 0)) x64_26) : gb420 ≠ gb421)); have n10_ := Aside0.mk ((by rw [hg]; exact Nat.ne_of_gt (blk_lt (g := gb420) (o := .cells #[.int .i64 0, .int .i64 0, .string (⟨#[]⟩ : ByteArray), .int .i64 0, .int .u64 0] 30 (0, 0)) x64_26) : gb421 ≠ gb420)); clear HO_4; clear BK410; clear BK420; clear HB; have HO_4 := n0_; have BK410 := n1_; have BK420 := n2_; have HB := n3_; have BK421 := n4_; have GW421 := n5_; have GE421 := n6_; have NB410_421 := n7_; have NB421_410 := n8_; have NB420_421 := n9_; have NB421_420 := n10_; clear n0_ n1_ n2_ n3_ n4_ n5_ n6_ n7_ n8_ n9_ n10_; clear hb hbox hg; have hnb14 := NB420_410.out; have hnc14 := NB410_420.out; have hnb15 := NB420_421.out; have hnc15 := NB421_420.out; have hcz16_0 : w13.cell? ⟨gb420, 0, none⟩ = some (.int .i64 0) := (blk_cell BK420.out 0).trans rfl; have hcz16_1 : w13.cell? ⟨gb420, 1, none⟩ = some (.int .i64 0) := (blk_cell BK420.out 1).trans rfl; have hcz16_2 : w13.cell? ⟨gb420, 2, none⟩ = some (.string (⟨#[]⟩ : ByteArray)) := (blk_cell BK420.out 2).trans rfl; have hcz16_3 : w13.cell? ⟨gb420, 3, none⟩ = some (.int .i64 0) := (blk_cell BK420.out 3).trans rfl; have hcz16_4 : w13.cell? ⟨gb420, 4, none⟩ = some (.int .u64 0) := (blk_cell BK420.out 4).trans rfl; have hfz16_0 := blk_frozen BK420.out 0; have hfz16_1 := blk_frozen BK420.out 1; have hfz16_2 := blk_frozen BK420.out 2; have hfz16_3 := blk_frozen BK420.out 3; have hfz16_4 := blk_frozen BK420.out 4; have hnb17 := NB421_410.out; have hnc17 := NB410_421.out; have hcz18_0 : w13.cell? ⟨gb421, 0, none⟩ = some (.int .i64 0) := (blk_cell BK421.out 0).trans rfl; have hcz18_1 : w13.cell? ⟨gb421, 1, none⟩ = some (.int .i64 0) := (blk_cell BK421.out 1).trans rfl; have hfz18_0 := blk_frozen BK421.out 0; have hfz18_1 := blk_frozen BK421.out 1) | ((with_reducible refine gate_builtin (b := .append) (xs := #[.tmp 27, .tmp 29]) rfl ?_); at_builtin; refine Kd.R_append k30 (w0 := w) w.heap.size rfl (.tmp 27) (.tmp 29) 22 30 (.agg #[(.int .i64 0), (.int .i64 0), (.string ⟨#[]⟩), (.int .i64 0), (.int .u64 0)]) 48 rfl Tryd.underlying22 info30 rfl (by decide) (by omega) u4 x4_1 (⟨t412, t413, t414, t415, t416⟩ : S30) [.int .i64 t412, .int .i64 t413, .string t414, .int .i64 t415, .int .u64 t416] (fun k_ => k_ ≠ gb420) (fun _ => False) rfl (by first | (go_simp; done) | (go_simp; rfl)) ?aP (fun _ hk => hk.elim) ?aF ?aO ?aB ?aS ?aL ?_; (case aP => exact k30_mkM _ _ _ (⟨t412, t413, t414, t415, t416⟩ : S30)); (case aB => exact x64_5); (case aF => exact (fun k_ hk => Kd.freshB (g := gb420) (o := .cells #[.int .i64 t412, .int .i64 t413, .string t414, .int .i64 t415, .int .u64 t416] 30 (0, 0)) x64_0 k_ hk)); (case aO => exact x64_3); (case aS => exact (below_size x64_5)); (case aL => have := LMc9.out; omega); intro v423 w19 ho hb hg hat; rw [← Ny422.out] at ho; have n0_ := Aside0.mk (blk_grown (g := gb410) (o := .cells #[.int .i64 x411000_1, .int .i64 x411001_1] 25 (0, 0)) x64_2 hg (Kd.R_ne HO_4.out BK410.out (by decide))); have n1_ := Aside0.mk (blk_grown (g := gb420) (o := .cells #[.int .i64 t412, .int .i64 t413, .string t414, .int .i64 t415, .int .u64 t416] 30 (0, 0)) x64_0 hg (Kd.R_away HO_4.out (fun _ hk => hk.2))); have n2_ := Aside0.mk (blk_grown (g := gb421) (o := .cells #[.int .i64 t418, .int .i64 t419] 25 (0, 0)) x64_1 hg (Kd.R_ne HO_4.out BK421.out (by decide))); have n3_ := Aside0.mk (hb); have n4_ := Aside0.mk (ho); clear BK410; clear BK420; clear BK421; clear HB; clear HO_4; have BK410 := n0_; have BK420 := n1_; have BK421 := n2_; have HB := n3_; have HO424 := n4_; clear n0_ n1_ n2_ n3_ n4_; clear ho hb hg hat; have hcz20_0 : w19.cell? ⟨gb420, 0, none⟩ = some (.int .i64 t412) := (blk_cell BK420.out 0).trans rfl; have hcz20_1 : w19.cell? ⟨gb420, 1, none⟩ = some (.int .i64 t413) := (blk_cell BK420.out 1).trans rfl; have hcz20_2 : w19.cell? ⟨gb420, 2, none⟩ = some (.string t414) := (blk_cell BK420.out 2).trans rfl; have hcz20_3 : w19.cell? ⟨gb420, 3, none⟩ = some (.int .i64 t415) := (blk_cell BK420.out 3).trans rfl; have hcz20_4 : w19.cell? ⟨gb420, 4, none⟩ = some (.int .u64 t416) := (blk_cell BK420.out 4).trans rfl; have hfz20_0 := blk_frozen BK420.out 0; have hfz20_1 := blk_frozen BK420.out 1; have hfz20_2 := blk_frozen BK420.out 2; have hfz20_3 := blk_frozen BK420.out 3; have hfz20_4 := blk_frozen BK420.out 4; have hcz21_0 : w19.cell? ⟨gb410, 0, none⟩ = some (.int .i64 x411000_1) := (blk_cell BK410.out 0).trans rfl; have hcz21_1 : w19.cell? ⟨gb410, 1, none⟩ = some (.int .i64 x411001_1) := (blk_cell BK410.out 1).trans rfl; have hfz21_0 := blk_frozen BK410.out 0; have hfz21_1 := blk_frozen BK410.out 1))
       refine bodyPost_ret (results_tc rfl _ _ gb410 25 #[.int .i64 0, .int .i64 0] (0, 0) _ rfl (by (with_reducible repeat first | apply blk_drewN | apply blk_drew | apply blk_alloc); refine blk_put (cs := #[.int .i64 0, .int .i64 x411001_1]) ?_ 1 _ rfl; (with_reducible repeat first | apply blk_drewN | apply blk_drew | apply blk_alloc); refine blk_put (cs := #[.int .i64 x411000_1, .int .i64 x411001_1]) ?_ 0 _ rfl; (with_reducible repeat first | apply blk_drewN | apply blk_drew | apply blk_alloc); exact BK410.out) Tryd.underlying25 rfl (by kernel_rfl)) rfl ?_
       exact ⟨_, x64_27, by (with_reducible repeat (first | apply Kd.R_alloc | apply Kd.R_drewN | apply Kd.R_drew)); exact Kd.R_mono (Kd.R_far (p := ⟨gb410, 1, none⟩) (Kd.R_far (p := ⟨gb410, 0, none⟩) (Kd.R_types HO424.out BK410.out (by decide)) (fun _ hk => hk.2) (.int .i64 0)) (fun _ hk => hk.2) (.int .i64 0)) (fun _ hk => trivial), x64_5⟩
      ·rw [if_neg c10] at H
       have c10b0 : (t412 == 7) = false := beq_eq_false_iff_ne.mpr c10
       have c10b1 : (t412 != 7) = true := bne_iff_ne.mpr c10
       have H' := Aside0.mk H
       clear H
       go_wp2_with (first | ((with_reducible refine gate_callee (f := 15) rfl ?_); refine goesL_ (some 15) rfl rfl Tryd.func15 (by kernel_rfl) rfl #[.string a0, .int .i64 x5_1] rfl x64_11 ?_; (with_reducible refine (casketref11_Blank.calls k1 a0 x5_1 t411 _ A6.out).mono ?_); rintro e w' ⟨rfl, ⟨nd, rfl⟩⟩; refine ⟨_, rfl, ?_⟩; (try (rw [drewN_self wr]; generalize hq_ : World.drewN wr _ = wr; have n0_ : Aside0 (Kd.R k30 30 wr w.heap.size (fun _ => True) u4 x4_1) := ⟨x64_13⟩; have n1_ : Aside0 (wr.heap[gb410]? = some (.cells #[.int .i64 x411000_1, .int .i64 x411001_1] 25 (0, 0))) := ⟨x64_14⟩; have n2_ : Aside0 (Below w.heap.size w wr) := ⟨x64_7⟩; clear HO_4 BK410 HB hq_; have HO_4 := n0_; have BK410 := n1_; have HB := n2_; clear n0_ n1_ n2_))) | ((with_reducible refine gate_callee (f := 16) rfl ?_); refine goesL_ (some 19) rfl rfl Tryd.func16 (by kernel_rfl) rfl #[.string a0, .int .i64 t411] rfl x64_11 ?_; (with_reducible refine (casketref11_Next.calls k1 a0 t411 t412 t413 t414 t415 t416 t417 t418 t419 _ A7.out).mono ?_); rintro e w22 ⟨rfl, hb⟩; refine ⟨_, rfl, ?_⟩; have n0_ := Aside0.mk (Kd.R_below x64_24 hb); have n1_ := Aside0.mk (blk_below (g := gb410) (o := .cells #[.int .i64 x411000_1, .int .i64 x411001_1] 25 (0, 0)) x64_25 hb); have n2_ := Aside0.mk (below_step x64_8 hb); clear HO_4; clear BK410; clear HB; have HO_4 := n0_; have BK410 := n1_; have HB := n2_; clear n0_ n1_ n2_) | ((with_reducible refine gate_dst (N := 6) rfl ?_); refine box_event ?hg (N := 6) ?hd (cs := #[.int .i64 0, .int .i64 0, .string (⟨#[]⟩ : ByteArray), .int .i64 0, .int .u64 0]) (t := 30) ?hr ?_; (case hd => rfl); (case hg => rfl); (case hr => first | (go_simp; done) | (go_simp; rfl)); intro gb420 hg w23 hbox hb; have n0_ := Aside0.mk (Kd.R_below (Kd.R_elderB x64_24 gb420 (Nat.le_of_eq hg.symm)) hb); have n1_ := Aside0.mk (blk_below (g := gb410) (o := .cells #[.int .i64 x411000_1, .int .i64 x411001_1] 25 (0, 0)) x64_25 hb); have n2_ := Aside0.mk (below_step x64_8 hb); have n3_ := Aside0.mk (hbox); have n4_ := Aside0.mk ((by rw [hg]; exact (below_size x64_8) : w.heap.size ≤ gb420)); have n5_ := Aside0.mk ((by rw [hg]; exact (below_size x64_8) : w.heap.size ≤ gb420)); have n6_ := Aside0.mk ((by rw [hg]; exact Nat.ne_of_lt (blk_lt (g := gb410) (o := .cells #[.int .i64 x411000_1, .int .i64 x411001_1] 25 (0, 0)) x64_25) : gb410 ≠ gb420)); have n7_ := Aside0.mk ((by rw [hg]; exact Nat.ne_of_gt (blk_lt (g := gb410) (o := .cells #[.int .i64 x411000_1, .int .i64 x411001_1] 25 (0, 0)) x64_25) : gb420 ≠ gb410)); clear HO_4; clear BK410; clear HB; have HO_4 := n0_; have BK410 := n1_; have HB := n2_; have BK420 := n3_; have GW420 := n4_; have GE420 := n5_; have NB410_420 := n6_; have NB420_410 := n7_; clear n0_ n1_ n2_ n3_ n4_ n5_ n6_ n7_; clear hb hbox hg) | ((with_reducible refine gate_dst (N := 8) rfl ?_); refine box_event ?hg (N := 8) ?hd (cs := #[.int .i64 0, .int .i64 0]) (t := 25) ?hr ?_; (case hd => rfl); (case hg => rfl); (case hr => first | (go_simp; done) | (go_simp; rfl)); intro gb421 hg w24 hbox hb; have n0_ := Aside0.mk (Kd.R_below x64_24 hb); have n1_ := Aside0.mk (blk_below (g := gb410) (o := .cells #[.int .i64 x411000_1, .int .i64 x411001_1] 25 (0, 0)) x64_25 hb); have n2_ := Aside0.mk (blk_below (g := gb420) (o := .cells #[.int .i64 0, .int .i64 0, .string (⟨#[]⟩ : ByteArray), .int .i64 0, .int .u64 0] 30 (0, 0)) x64_26 hb); have n3_ := Aside0.mk (below_step x64_6 hb); have n4_ := Aside0.mk (hbox); have n5_ := Aside0.mk ((by rw [hg]; exact (below_size x64_6) : w.heap.size ≤ gb421)); have n6_ := Aside0.mk ((by rw [hg]; exact (below_size x64_6) : w.heap.size ≤ gb421)); have n7_ := Aside0.mk ((by rw [hg]; exact Nat.ne_of_lt (blk_lt (g := gb410) (o := .cells #[.int .i64 x411000_1, .int .i64 x411001_1] 25 (0, 0)) x64_25) : gb410 ≠ gb421)); have n8_ := Aside0.mk ((by rw [hg]; exact Nat.ne_of_gt (blk_lt (g := gb410) (o := .cells #[.int .i64 x411000_1, .int .i64 x411001_1] 25 (0, 0)) x64_25) : gb421 ≠ gb410)); have n9_ := Aside0.mk ((by rw [hg]; exact Nat.ne_of_lt (blk_lt (g := gb420) (o := .cells #[.int .i64 0, .int .i64 0, .string (⟨#[]⟩ : ByteArray), .int .i64 0, .int .u64 0] 30 (0, 0)) x64_26) : gb420 ≠ gb421)); have n10_ := Aside0.mk ((by rw [hg]; exact Nat.ne_of_gt (blk_lt (g := gb420) (o := .cells #[.int .i64 0, .int .i64 0, .string (⟨#[]⟩ : ByteArray), .int .i64 0, .int .u64 0] 30 (0, 0)) x64_26) : gb421 ≠ gb420)); clear HO_4; clear BK410; clear BK420; clear HB; have HO_4 := n0_; have BK410 := n1_; have BK420 := n2_; have HB := n3_; have BK421 := n4_; have GW421 := n5_; have GE421 := n6_; have NB410_421 := n7_; have NB421_410 := n8_; have NB420_421 := n9_; have NB421_420 := n10_; clear n0_ n1_ n2_ n3_ n4_ n5_ n6_ n7_ n8_ n9_ n10_; clear hb hbox hg; have hnb25 := NB420_410.out; have hnc25 := NB410_420.out; have hnb26 := NB420_421.out; have hnc26 := NB421_420.out; have hcz27_0 : w24.cell? ⟨gb420, 0, none⟩ = some (.int .i64 0) := (blk_cell BK420.out 0).trans rfl; have hcz27_1 : w24.cell? ⟨gb420, 1, none⟩ = some (.int .i64 0) := (blk_cell BK420.out 1).trans rfl; have hcz27_2 : w24.cell? ⟨gb420, 2, none⟩ = some (.string (⟨#[]⟩ : ByteArray)) := (blk_cell BK420.out 2).trans rfl; have hcz27_3 : w24.cell? ⟨gb420, 3, none⟩ = some (.int .i64 0) := (blk_cell BK420.out 3).trans rfl; have hcz27_4 : w24.cell? ⟨gb420, 4, none⟩ = some (.int .u64 0) := (blk_cell BK420.out 4).trans rfl; have hfz27_0 := blk_frozen BK420.out 0; have hfz27_1 := blk_frozen BK420.out 1; have hfz27_2 := blk_frozen BK420.out 2; have hfz27_3 := blk_frozen BK420.out 3; have hfz27_4 := blk_frozen BK420.out 4; have hnb28 := NB421_410.out; have hnc28 := NB410_421.out; have hcz29_0 : w24.cell? ⟨gb421, 0, none⟩ = some (.int .i64 0) := (blk_cell BK421.out 0).trans rfl; have hcz29_1 : w24.cell? ⟨gb421, 1, none⟩ = some (.int .i64 0) := (blk_cell BK421.out 1).trans rfl; have hfz29_0 := blk_frozen BK421.out 0; have hfz29_1 := blk_frozen BK421.out 1) | ((with_reducible refine gate_builtin (b := .append) (xs := #[.tmp 27, .tmp 29]) rfl ?_); at_builtin; refine Kd.R_append k30 (w0 := w) w.heap.size rfl (.tmp 27) (.tmp 29) 22 30 (.agg #[(.int .i64 0), (.int .i64 0), (.string ⟨#[]⟩), (.int .i64 0), (.int .u64 0)]) 48 rfl Tryd.underlying22 info30 rfl (by decide) (by omega) u4 x4_1 (⟨t412, t413, t414, t415, t416⟩ : S30) [.int .i64 t412, .int .i64 t413, .string t414, .int .i64 t415, .int .u64 t416] (fun k_ => k_ ≠ gb420) (fun _ => False) rfl (by first | (go_simp; done) | (go_simp; rfl)) ?aP (fun _ hk => hk.elim) ?aF ?aO ?aB ?aS ?aL ?_; (case aP => exact k30_mkM _ _ _ (⟨t412, t413, t414, t415, t416⟩ : S30)); (case aB => exact x64_5); (case aF => exact (fun k_ hk => Kd.freshB (g := gb420) (o := .cells #[.int .i64 t412, .int .i64 t413, .string t414, .int .i64 t415, .int .u64 t416] 30 (0, 0)) x64_0 k_ hk)); (case aO => exact x64_3); (case aS => exact (below_size x64_5)); (case aL => have := LMc9.out; omega); intro v423 w30 ho hb hg hat; rw [← Ny422.out] at ho; have n0_ := Aside0.mk (blk_grown (g := gb410) (o := .cells #[.int .i64 x411000_1, .int .i64 x411001_1] 25 (0, 0)) x64_2 hg (Kd.R_ne HO_4.out BK410.out (by decide))); have n1_ := Aside0.mk (blk_grown (g := gb420) (o := .cells #[.int .i64 t412, .int .i64 t413, .string t414, .int .i64 t415, .int .u64 t416] 30 (0, 0)) x64_0 hg (Kd.R_away HO_4.out (fun _ hk => hk.2))); have n2_ := Aside0.mk (blk_grown (g := gb421) (o := .cells #[.int .i64 t418, .int .i64 t419] 25 (0, 0)) x64_1 hg (Kd.R_ne HO_4.out BK421.out (by decide))); have n3_ := Aside0.mk (hb); have n4_ := Aside0.mk (ho); clear BK410; clear BK420; clear BK421; clear HB; clear HO_4; have BK410 := n0_; have BK420 := n1_; have BK421 := n2_; have HB := n3_; have HO424 := n4_; clear n0_ n1_ n2_ n3_ n4_; clear ho hb hg hat; have hcz31_0 : w30.cell? ⟨gb420, 0, none⟩ = some (.int .i64 t412) := (blk_cell BK420.out 0).trans rfl; have hcz31_1 : w30.cell? ⟨gb420, 1, none⟩ = some (.int .i64 t413) := (blk_cell BK420.out 1).trans rfl; have hcz31_2 : w30.cell? ⟨gb420, 2, none⟩ = some (.string t414) := (blk_cell BK420.out 2).trans rfl; have hcz31_3 : w30.cell? ⟨gb420, 3, none⟩ = some (.int .i64 t415) := (blk_cell BK420.out 3).trans rfl; have hcz31_4 : w30.cell? ⟨gb420, 4, none⟩ = some (.int .u64 t416) := (blk_cell BK420.out 4).trans rfl; have hfz31_0 := blk_frozen BK420.out 0; have hfz31_1 := blk_frozen BK420.out 1; have hfz31_2 := blk_frozen BK420.out 2; have hfz31_3 := blk_frozen BK420.out 3; have hfz31_4 := blk_frozen BK420.out 4))
       go_roundg k1
       case measure => have := HK1.out; omega
       case rel => exact ⟨(y422), (t417), (x411000_1), (x411001_1), (by first | rfl | (simp; done) | (simp [*]; done)), H', ⟨by have := HK1.out; omega⟩, ⟨by (with_reducible repeat (first | apply Kd.R_alloc | apply Kd.R_drewN | apply Kd.R_drew)); exact Kd.R_mono HO424.out (fun _ hk => trivial)⟩, ⟨x64_25⟩, ⟨x64_5⟩⟩
     ·rw [if_neg c9] at H
      exact absurd H (by simp)
    ·rw [if_neg c8] at H
     have c8b0 : (t418 == 0) = false := beq_eq_false_iff_ne.mpr c8
     have c8b1 : (t418 != 0) = true := bne_iff_ne.mpr c8
     simp only [Option.some.injEq, Prod.mk.injEq] at H
     obtain ⟨rfl, rfl, rfl⟩ := H
     try go_wp2_with (first | ((with_reducible refine gate_callee (f := 15) rfl ?_); refine goesL_ (some 15) rfl rfl Tryd.func15 (by kernel_rfl) rfl #[.string a0, .int .i64 x5_1] rfl x64_11 ?_; (with_reducible refine (casketref11_Blank.calls k1 a0 x5_1 t411 _ A6.out).mono ?_); rintro e w' ⟨rfl, ⟨nd, rfl⟩⟩; refine ⟨_, rfl, ?_⟩; (try (rw [drewN_self wr]; generalize hq_ : World.drewN wr _ = wr; have n0_ : Aside0 (Kd.R k30 30 wr w.heap.size (fun _ => True) u4 x4_1) := ⟨x64_13⟩; have n1_ : Aside0 (wr.heap[gb410]? = some (.cells #[.int .i64 x411000_1, .int .i64 x411001_1] 25 (0, 0))) := ⟨x64_14⟩; have n2_ : Aside0 (Below w.heap.size w wr) := ⟨x64_7⟩; clear HO_4 BK410 HB hq_; have HO_4 := n0_; have BK410 := n1_; have HB := n2_; clear n0_ n1_ n2_))) | ((with_reducible refine gate_callee (f := 16) rfl ?_); refine goesL_ (some 19) rfl rfl Tryd.func16 (by kernel_rfl) rfl #[.string a0, .int .i64 t411] rfl x64_11 ?_; (with_reducible refine (casketref11_Next.calls k1 a0 t411 t412 t413 t414 t415 t416 t417 t418 t419 _ A7.out).mono ?_); rintro e w32 ⟨rfl, hb⟩; refine ⟨_, rfl, ?_⟩; have n0_ := Aside0.mk (Kd.R_below x64_24 hb); have n1_ := Aside0.mk (blk_below (g := gb410) (o := .cells #[.int .i64 x411000_1, .int .i64 x411001_1] 25 (0, 0)) x64_25 hb); have n2_ := Aside0.mk (below_step x64_8 hb); clear HO_4; clear BK410; clear HB; have HO_4 := n0_; have BK410 := n1_; have HB := n2_; clear n0_ n1_ n2_) | ((with_reducible refine gate_dst (N := 6) rfl ?_); refine box_event ?hg (N := 6) ?hd (cs := #[.int .i64 0, .int .i64 0, .string (⟨#[]⟩ : ByteArray), .int .i64 0, .int .u64 0]) (t := 30) ?hr ?_; (case hd => rfl); (case hg => rfl); (case hr => first | (go_simp; done) | (go_simp; rfl)); intro gb420 hg w33 hbox hb; have n0_ := Aside0.mk (Kd.R_below (Kd.R_elderB x64_24 gb420 (Nat.le_of_eq hg.symm)) hb); have n1_ := Aside0.mk (blk_below (g := gb410) (o := .cells #[.int .i64 x411000_1, .int .i64 x411001_1] 25 (0, 0)) x64_25 hb); have n2_ := Aside0.mk (below_step x64_8 hb); have n3_ := Aside0.mk (hbox); have n4_ := Aside0.mk ((by rw [hg]; exact (below_size x64_8) : w.heap.size ≤ gb420)); have n5_ := Aside0.mk ((by rw [hg]; exact (below_size x64_8) : w.heap.size ≤ gb420)); have n6_ := Aside0.mk ((by rw [hg]; exact Nat.ne_of_lt (blk_lt (g := gb410) (o := .cells #[.int .i64 x411000_1, .int .i64 x411001_1] 25 (0, 0)) x64_25) : gb410 ≠ gb420)); have n7_ := Aside0.mk ((by rw [hg]; exact Nat.ne_of_gt (blk_lt (g := gb410) (o := .cells #[.int .i64 x411000_1, .int .i64 x411001_1] 25 (0, 0)) x64_25) : gb420 ≠ gb410)); clear HO_4; clear BK410; clear HB; have HO_4 := n0_; have BK410 := n1_; have HB := n2_; have BK420 := n3_; have GW420 := n4_; have GE420 := n5_; have NB410_420 := n6_; have NB420_410 := n7_; clear n0_ n1_ n2_ n3_ n4_ n5_ n6_ n7_; clear hb hbox hg) | ((with_reducible refine gate_dst (N := 8) rfl ?_); refine box_event ?hg (N := 8) ?hd (cs := #[.int .i64 0, .int .i64 0]) (t := 25) ?hr ?_; (case hd => rfl); (case hg => rfl); (case hr => first | (go_simp; done) | (go_simp; rfl)); intro gb421 hg w34 hbox hb; have n0_ := Aside0.mk (Kd.R_below x64_24 hb); have n1_ := Aside0.mk (blk_below (g := gb410) (o := .cells #[.int .i64 x411000_1, .int .i64 x411001_1] 25 (0, 0)) x64_25 hb); have n2_ := Aside0.mk (blk_below (g := gb420) (o := .cells #[.int .i64 0, .int .i64 0, .string (⟨#[]⟩ : ByteArray), .int .i64 0, .int .u64 0] 30 (0, 0)) x64_26 hb); have n3_ := Aside0.mk (below_step x64_6 hb); have n4_ := Aside0.mk (hbox); have n5_ := Aside0.mk ((by rw [hg]; exact (below_size x64_6) : w.heap.size ≤ gb421)); have n6_ := Aside0.mk ((by rw [hg]; exact (below_size x64_6) : w.heap.size ≤ gb421)); have n7_ := Aside0.mk ((by rw [hg]; exact Nat.ne_of_lt (blk_lt (g := gb410) (o := .cells #[.int .i64 x411000_1, .int .i64 x411001_1] 25 (0, 0)) x64_25) : gb410 ≠ gb421)); have n8_ := Aside0.mk ((by rw [hg]; exact Nat.ne_of_gt (blk_lt (g := gb410) (o := .cells #[.int .i64 x411000_1, .int .i64 x411001_1] 25 (0, 0)) x64_25) : gb421 ≠ gb410)); have n9_ := Aside0.mk ((by rw [hg]; exact Nat.ne_of_lt (blk_lt (g := gb420) (o := .cells #[.int .i64 0, .int .i64 0, .string (⟨#[]⟩ : ByteArray), .int .i64 0, .int .u64 0] 30 (0, 0)) x64_26) : gb420 ≠ gb421)); have n10_ := Aside0.mk ((by rw [hg]; exact Nat.ne_of_gt (blk_lt (g := gb420) (o := .cells #[.int .i64 0, .int .i64 0, .string (⟨#[]⟩ : ByteArray), .int .i64 0, .int .u64 0] 30 (0, 0)) x64_26) : gb421 ≠ gb420)); clear HO_4; clear BK410; clear BK420; clear HB; have HO_4 := n0_; have BK410 := n1_; have BK420 := n2_; have HB := n3_; have BK421 := n4_; have GW421 := n5_; have GE421 := n6_; have NB410_421 := n7_; have NB421_410 := n8_; have NB420_421 := n9_; have NB421_420 := n10_; clear n0_ n1_ n2_ n3_ n4_ n5_ n6_ n7_ n8_ n9_ n10_; clear hb hbox hg; have hnb35 := NB420_410.out; have hnc35 := NB410_420.out; have hnb36 := NB420_421.out; have hnc36 := NB421_420.out; have hcz37_0 : w34.cell? ⟨gb420, 0, none⟩ = some (.int .i64 0) := (blk_cell BK420.out 0).trans rfl; have hcz37_1 : w34.cell? ⟨gb420, 1, none⟩ = some (.int .i64 0) := (blk_cell BK420.out 1).trans rfl; have hcz37_2 : w34.cell? ⟨gb420, 2, none⟩ = some (.string (⟨#[]⟩ : ByteArray)) := (blk_cell BK420.out 2).trans rfl; have hcz37_3 : w34.cell? ⟨gb420, 3, none⟩ = some (.int .i64 0) := (blk_cell BK420.out 3).trans rfl; have hcz37_4 : w34.cell? ⟨gb420, 4, none⟩ = some (.int .u64 0) := (blk_cell BK420.out 4).trans rfl; have hfz37_0 := blk_frozen BK420.out 0; have hfz37_1 := blk_frozen BK420.out 1; have hfz37_2 := blk_frozen BK420.out 2; have hfz37_3 := blk_frozen BK420.out 3; have hfz37_4 := blk_frozen BK420.out 4; have hnb38 := NB421_410.out; have hnc38 := NB410_421.out; have hcz39_0 : w34.cell? ⟨gb421, 0, none⟩ = some (.int .i64 0) := (blk_cell BK421.out 0).trans rfl; have hcz39_1 : w34.cell? ⟨gb421, 1, none⟩ = some (.int .i64 0) := (blk_cell BK421.out 1).trans rfl; have hfz39_0 := blk_frozen BK421.out 0; have hfz39_1 := blk_frozen BK421.out 1))
     have n0_ : Aside0 (Kd.R k30 30 (((((((w34.setCell ⟨gb420, 0, none⟩ (.int .i64 t412)).setCell ⟨gb420, 1, none⟩ (.int .i64 t413)).setCell ⟨gb420, 2, none⟩ (.string t414)).setCell ⟨gb420, 3, none⟩ (.int .i64 t415)).setCell ⟨gb420, 4, none⟩ (.int .u64 t416)).setCell ⟨gb421, 0, none⟩ (.int .i64 t418)).setCell ⟨gb421, 1, none⟩ (.int .i64 t419)) w.heap.size (fun k_ => k_ ≠ gb420) u4 x4_1) := ⟨x64_3⟩
     have n1_ : Aside0 ((((((((w34.setCell ⟨gb420, 0, none⟩ (.int .i64 t412)).setCell ⟨gb420, 1, none⟩ (.int .i64 t413)).setCell ⟨gb420, 2, none⟩ (.string t414)).setCell ⟨gb420, 3, none⟩ (.int .i64 t415)).setCell ⟨gb420, 4, none⟩ (.int .u64 t416)).setCell ⟨gb421, 0, none⟩ (.int .i64 t418)).setCell ⟨gb421, 1, none⟩ (.int .i64 t419)).heap[gb410]? = some (.cells #[.int .i64 x411000_1, .int .i64 x411001_1] 25 (0, 0))) := ⟨x64_2⟩
     have n2_ : Aside0 ((((((((w34.setCell ⟨gb420, 0, none⟩ (.int .i64 t412)).setCell ⟨gb420, 1, none⟩ (.int .i64 t413)).setCell ⟨gb420, 2, none⟩ (.string t414)).setCell ⟨gb420, 3, none⟩ (.int .i64 t415)).setCell ⟨gb420, 4, none⟩ (.int .u64 t416)).setCell ⟨gb421, 0, none⟩ (.int .i64 t418)).setCell ⟨gb421, 1, none⟩ (.int .i64 t419)).heap[gb420]? = some (.cells #[.int .i64 t412, .int .i64 t413, .string t414, .int .i64 t415, .int .u64 t416] 30 (0, 0))) := ⟨x64_0⟩
     have n3_ : Aside0 ((((((((w34.setCell ⟨gb420, 0, none⟩ (.int .i64 t412)).setCell ⟨gb420, 1, none⟩ (.int .i64 t413)).setCell ⟨gb420, 2, none⟩ (.string t414)).setCell ⟨gb420, 3, none⟩ (.int .i64 t415)).setCell ⟨gb420, 4, none⟩ (.int .u64 t416)).setCell ⟨gb421, 0, none⟩ (.int .i64 t418)).setCell ⟨gb421, 1, none⟩ (.int .i64 t419)).heap[gb421]? = some (.cells #[.int .i64 t418, .int .i64 t419] 25 (0, 0))) := ⟨x64_1⟩
     have n4_ : Aside0 (Below w.heap.size w (((((((w34.setCell ⟨gb420, 0, none⟩ (.int .i64 t412)).setCell ⟨gb420, 1, none⟩ (.int .i64 t413)).setCell ⟨gb420, 2, none⟩ (.string t414)).setCell ⟨gb420, 3, none⟩ (.int .i64 t415)).setCell ⟨gb420, 4, none⟩ (.int .u64 t416)).setCell ⟨gb421, 0, none⟩ (.int .i64 t418)).setCell ⟨gb421, 1, none⟩ (.int .i64 t419))) := ⟨x64_5⟩
     (try clear HO_4)
     (try clear BK410)
     (try clear BK420)
     (try clear BK421)
     (try clear HB)
     generalize (((((((w34.setCell ⟨gb420, 0, none⟩ (.int .i64 t412)).setCell ⟨gb420, 1, none⟩ (.int .i64 t413)).setCell ⟨gb420, 2, none⟩ (.string t414)).setCell ⟨gb420, 3, none⟩ (.int .i64 t415)).setCell ⟨gb420, 4, none⟩ (.int .u64 t416)).setCell ⟨gb421, 0, none⟩ (.int .i64 t418)).setCell ⟨gb421, 1, none⟩ (.int .i64 t419)) = w40 at n0_ n1_ n2_ n3_ n4_ ⊢
     have HO_4 := n0_
     have BK410 := n1_
     have BK420 := n2_
     have BK421 := n3_
     have HB := n4_
     clear n0_ n1_ n2_ n3_ n4_
     have n0_ := Aside0.mk (Kd.R_drew HO_4.out)
     have n1_ := Aside0.mk (blk_drew BK410.out)
     have n2_ := Aside0.mk (blk_drew BK420.out)
     have n3_ := Aside0.mk (blk_drew BK421.out)
     have n4_ := Aside0.mk (below_drew1 HB.out)
     clear HO_4
     clear BK410
     clear BK420
     clear BK421
     clear HB
     have HO_4 := n0_
     have BK410 := n1_
     have BK420 := n2_
     have BK421 := n3_
     have HB := n4_
     clear n0_ n1_ n2_ n3_ n4_
     refine start_ (n := 3) (S := fun w' => w'.cell? ⟨gb421, 0, none⟩ = some (.int .i64 t418) ∧ w'.cell? ⟨gb421, 1, none⟩ = some (.int .i64 t419)) (ds := []) #[false, false, false] (by kernel_rfl) rfl rfl ⟨(blk_cell BK421.out 0).trans rfl, (blk_cell BK421.out 1).trans rfl⟩ (fun hHeld => ?_)
     generalize w40.drew = w41 at HO_4 BK410 BK420 BK421 HB hHeld ⊢
     refine pure_ (i := 1) (N := some 2) (v := ?_) (a' := ?_) #[false, true, false] rfl rfl (by kernel_rfl) (fun _ _ _ h => h) (Or.inl ⟨by rfl, ?_⟩) ?_ ?_
     rotate_left
     ·intro w'
      go_simp
      with_reducible rfl
     rotate_left
     ·simp only [Act.put, List.setIfInBounds_toArray, List.set_cons_zero, List.set_cons_succ, i64_w, i32_w]
      rfl
     refine take_ (i := 0) (N := some 26) (v := ?_) (a' := ?_) #[true, true, false] rfl rfl (by kernel_rfl) (fun _ _ _ h => h) (Or.inl ⟨by rfl, ?_⟩) hHeld ?_ ?_
     rotate_left
     ·rintro w' ⟨s0, s1⟩
      go_simp
      with_reducible rfl
     rotate_left
     ·simp only [Act.put, List.setIfInBounds_toArray, List.set_cons_zero, List.set_cons_succ, i64_w, i32_w]
      rfl
     refine one_ (i := 2) (N := none) #[true, true, true] rfl rfl (by kernel_rfl) (by decide) (fun K hK => ?_)
     have hs42 : w41.cell? ⟨gb410, 0, none⟩ = some (.int .i64 x411000_1) := (blk_cell BK410.out 0).trans rfl
     have hfs42 := blk_frozen BK410.out 0
     have hns42_1 := NB420_410.out
     have hns42_2 := NB421_410.out
     have hms42_1 := NB410_420.out
     have hms42_2 := NB410_421.out
     have hs43 : w41.cell? ⟨gb410, 1, none⟩ = some (.int .i64 x411001_1) := (blk_cell BK410.out 1).trans rfl
     have hfs43 := blk_frozen BK410.out 1
     have hns43_1 := NB420_410.out
     have hns43_2 := NB421_410.out
     have hms43_1 := NB410_420.out
     have hms43_2 := NB410_421.out
     refine skip_ (w1 := ?_) (by rfl) rfl ?_ ?_
     rotate_left
     ·go_simp
      rfl
     refine hK.out _ _ ⟨((cell_far (p := ⟨gb410, _, none⟩) NB421_410.out _).trans (((cell_far (p := ⟨gb410, _, none⟩) NB421_410.out _).trans (hHeld.1)))), ((cell_far (p := ⟨gb410, _, none⟩) NB421_410.out _).trans (((cell_far (p := ⟨gb410, _, none⟩) NB421_410.out _).trans (hHeld.2))))⟩ (fun hHeld => ?_)
     clear hK K
     refine done_ (by kernel_rfl) ?_
     try go_wp2
     refine bodyPost_ret (results_tc rfl _ _ gb410 25 #[.int .i64 t418, .int .i64 t419] (0, 0) _ rfl (by (with_reducible repeat first | apply blk_drewN | apply blk_drew | apply blk_alloc); refine blk_put (cs := #[.int .i64 t418, .int .i64 x411001_1]) ?_ 1 _ rfl; (with_reducible repeat first | apply blk_drewN | apply blk_drew | apply blk_alloc); refine blk_put (cs := #[.int .i64 x411000_1, .int .i64 x411001_1]) ?_ 0 _ rfl; (with_reducible repeat first | apply blk_drewN | apply blk_drew | apply blk_alloc); exact BK410.out) Tryd.underlying25 rfl (by kernel_rfl)) rfl ?_
     exact ⟨_, x64_27, x64_10, x64_5⟩
def casketlaw11_awake.f  : Option (Bool) := (lex_All.f (⟨#[108, 101, 116, 32, 120, 61, 49, 46, 46, 50, 32, 35, 32, 121]⟩ : ByteArray)).bind fun bt425 => (if (bt425.1.length : Int) = 7 then (if 1 < (bt425.1.length : Int) then (if (((rd_T30 bt425.1 1).f0) == 1 && (((rd_T30 bt425.1 1).f1) == 4 && ((((rd_T30 bt425.1 1).f2).toList) == ([120] : List UInt8) && (((rd_T30 bt425.1 1).f3) == 0 && (((rd_T30 bt425.1 1).f4) == 0))))) = true then (if 4 < (bt425.1.length : Int) then (if (((rd_T30 bt425.1 4).f0) == 3 && (((rd_T30 bt425.1 4).f1) == 7 && ((((rd_T30 bt425.1 4).f2).toList) == ([46, 46] : List UInt8) && (((rd_T30 bt425.1 4).f3) == 0 && (((rd_T30 bt425.1 4).f4) == 0))))) = true then (if 6 < (bt425.1.length : Int) then (if ((rd_T30 bt425.1 6).f0) = 7 then (if ((rd_T30 bt425.1 6).f1) = 14 then (some (bt425.2.1 == 0 && (bt425.2.2 == 0))) else (some false)) else (some false)) else (none)) else (some false)) else (none)) else (some false)) else (none)) else (some false))
set_option maxHeartbeats 8000000 in
set_option maxRecDepth 100000 in
theorem casketlaw11_awake.calls  (r : Bool) (w : World) (hG : Glob w) (h : casketlaw11_awake.f  = some r) :
  Calls Tryd.prog 12 #[] w fun e w' => e = .returned (.bool r) ∧ Below w.heap.size w w' := by
 have HG0 := Aside0.mk hG
 clear hG
 have hu25 := Tryd.underlying25
 have hu30 := Tryd.underlying30
 have HB := Aside0.mk (Below.refl w.heap.size w)
 have H : ((lex_All.f (⟨#[108, 101, 116, 32, 120, 61, 49, 46, 46, 50, 32, 35, 32, 121]⟩ : ByteArray)).bind fun bt425 => (if (bt425.1.length : Int) = 7 then (if 1 < (bt425.1.length : Int) then (if (((rd_T30 bt425.1 1).f0) == 1 && (((rd_T30 bt425.1 1).f1) == 4 && ((((rd_T30 bt425.1 1).f2).toList) == ([120] : List UInt8) && (((rd_T30 bt425.1 1).f3) == 0 && (((rd_T30 bt425.1 1).f4) == 0))))) = true then (if 4 < (bt425.1.length : Int) then (if (((rd_T30 bt425.1 4).f0) == 3 && (((rd_T30 bt425.1 4).f1) == 7 && ((((rd_T30 bt425.1 4).f2).toList) == ([46, 46] : List UInt8) && (((rd_T30 bt425.1 4).f3) == 0 && (((rd_T30 bt425.1 4).f4) == 0))))) = true then (if 6 < (bt425.1.length : Int) then (if ((rd_T30 bt425.1 6).f0) = 7 then (if ((rd_T30 bt425.1 6).f1) = 14 then (some (bt425.2.1 == 0 && (bt425.2.2 == 0))) else (some false)) else (some false)) else (none)) else (some false)) else (none)) else (some false)) else (none)) else (some false))) = some r := h
 clear h
 replace H := Option.bind_eq_some_iff.mp H
 obtain ⟨⟨t425, t428, t429⟩, A10, H⟩ := H
 replace H : (if (t425.length : Int) = 7 then (if 1 < (t425.length : Int) then (if (((rd_T30 t425 1).f0) == 1 && (((rd_T30 t425 1).f1) == 4 && ((((rd_T30 t425 1).f2).toList) == ([120] : List UInt8) && (((rd_T30 t425 1).f3) == 0 && (((rd_T30 t425 1).f4) == 0))))) = true then (if 4 < (t425.length : Int) then (if (((rd_T30 t425 4).f0) == 3 && (((rd_T30 t425 4).f1) == 7 && ((((rd_T30 t425 4).f2).toList) == ([46, 46] : List UInt8) && (((rd_T30 t425 4).f3) == 0 && (((rd_T30 t425 4).f4) == 0))))) = true then (if 6 < (t425.length : Int) then (if ((rd_T30 t425 6).f0) = 7 then (if ((rd_T30 t425 6).f1) = 14 then (some (t428 == 0 && (t429 == 0))) else (some false)) else (some false)) else (none)) else (some false)) else (none)) else (some false)) else (none)) else (some false)) = some r := H
 have A1 := Aside0.mk A10
 clear A10
 by_cases c2 : (t425.length : Int) = 7
 ·rw [if_pos c2] at H
  have c2b0 : ((t425.length : Int) == 7) = true := beq_iff_eq.mpr c2
  have c2b1 : ((t425.length : Int) != 7) = false := bne_eq_false_iff_eq.mpr c2
  clear c2
  by_cases c3 : 1 < (t425.length : Int)
  ·rw [if_pos c3] at H
   have c3b0 : decide (1 < (t425.length : Int)) = true := decide_eq_true c3
   have c3b1 : decide (1 < t425.length) = true := decide_eq_true (by omega)
   clear c3
   by_cases c4 : (((rd_T30 t425 1).f0) == 1 && (((rd_T30 t425 1).f1) == 4 && ((((rd_T30 t425 1).f2).toList) == ([120] : List UInt8) && (((rd_T30 t425 1).f3) == 0 && (((rd_T30 t425 1).f4) == 0))))) = true
   ·rw [if_pos c4] at H
    have c4b0 : (((rd_T30 t425 1).f0) == 1 && (((rd_T30 t425 1).f1) == 4 && ((((rd_T30 t425 1).f2).toList) == ([120] : List UInt8) && (((rd_T30 t425 1).f3) == 0 && (((rd_T30 t425 1).f4) == 0))))) = true := c4
    (try (have c4b1 : decide (((rd_T30 t425 1).f0) = 1 && (((rd_T30 t425 1).f1) == 4 && ((((rd_T30 t425 1).f2).toList) == ([120] : List UInt8) && (((rd_T30 t425 1).f3) == 0 && (((rd_T30 t425 1).f4) == 0))))) = true := by simpa using c4))
    (try (have c4b2 : (((rd_T30 t425 1).f0) == 1 && (((rd_T30 t425 1).f1) == 4 && ((((rd_T30 t425 1).f2).toList) == ([120] : List UInt8) && (((rd_T30 t425 1).f3) == 0 && (((rd_T30 t425 1).f4) == 0))))) = true := by simpa using c4))
    clear c4
    by_cases c5 : 4 < (t425.length : Int)
    ·rw [if_pos c5] at H
     have c5b0 : decide (4 < (t425.length : Int)) = true := decide_eq_true c5
     have c5b1 : decide (4 < t425.length) = true := decide_eq_true (by omega)
     clear c5
     by_cases c6 : (((rd_T30 t425 4).f0) == 3 && (((rd_T30 t425 4).f1) == 7 && ((((rd_T30 t425 4).f2).toList) == ([46, 46] : List UInt8) && (((rd_T30 t425 4).f3) == 0 && (((rd_T30 t425 4).f4) == 0))))) = true
     ·rw [if_pos c6] at H
      have c6b0 : (((rd_T30 t425 4).f0) == 3 && (((rd_T30 t425 4).f1) == 7 && ((((rd_T30 t425 4).f2).toList) == ([46, 46] : List UInt8) && (((rd_T30 t425 4).f3) == 0 && (((rd_T30 t425 4).f4) == 0))))) = true := c6
      (try (have c6b1 : decide (((rd_T30 t425 4).f0) = 3 && (((rd_T30 t425 4).f1) == 7 && ((((rd_T30 t425 4).f2).toList) == ([46, 46] : List UInt8) && (((rd_T30 t425 4).f3) == 0 && (((rd_T30 t425 4).f4) == 0))))) = true := by simpa using c6))
      (try (have c6b2 : (((rd_T30 t425 4).f0) == 3 && (((rd_T30 t425 4).f1) == 7 && ((((rd_T30 t425 4).f2).toList) == ([46, 46] : List UInt8) && (((rd_T30 t425 4).f3) == 0 && (((rd_T30 t425 4).f4) == 0))))) = true := by simpa using c6))
      clear c6
      by_cases c7 : 6 < (t425.length : Int)
      ·rw [if_pos c7] at H
       have c7b0 : decide (6 < (t425.length : Int)) = true := decide_eq_true c7
       have c7b1 : decide (6 < t425.length) = true := decide_eq_true (by omega)
       clear c7
       by_cases c8 : ((rd_T30 t425 6).f0) = 7
       ·rw [if_pos c8] at H
        have c8b0 : (((rd_T30 t425 6).f0) == 7) = true := beq_iff_eq.mpr c8
        have c8b1 : (((rd_T30 t425 6).f0) != 7) = false := bne_eq_false_iff_eq.mpr c8
        clear c8
        by_cases c9 : ((rd_T30 t425 6).f1) = 14
        ·rw [if_pos c9] at H
         have c9b0 : (((rd_T30 t425 6).f1) == 14) = true := beq_iff_eq.mpr c9
         have c9b1 : (((rd_T30 t425 6).f1) != 14) = false := bne_eq_false_iff_eq.mpr c9
         clear c9
         obtain rfl := Option.some.inj H
         go_enter Tryd.func12, Tryd.ntmps12
         go_wp2_with (first | ((with_reducible refine gate_callee (f := 9) rfl ?_); refine goesL_ (some 4) rfl rfl Tryd.func9 (by kernel_rfl) rfl #[.string (⟨#[108, 101, 116, 32, 120, 61, 49, 46, 46, 50, 32, 35, 32, 121]⟩ : ByteArray)] rfl x64_11 ?_; (with_reducible refine (lex_All.calls (hG := x64_4) (⟨#[108, 101, 116, 32, 120, 61, 49, 46, 46, 50, 32, 35, 32, 121]⟩ : ByteArray) t425 t428 t429 _ A1.out).mono ?_); rintro e w10 ⟨v426, rfl, ho0, hb⟩; refine ⟨_, rfl, ?_⟩; have n0_ := Aside0.mk (Kd.R_lower ho0 (below_size x64_12)); have n1_ := Aside0.mk (below_step x64_12 hb); clear HB; have HO427 := n0_; have HB := n1_; clear n0_ n1_) | ((with_reducible refine gate_dst (N := 2) rfl ?_); refine box_event ?hg (N := 2) ?hd (cs := #[.int .i64 0, .int .i64 0]) (t := 25) ?hr ?_; (case hd => rfl); (case hg => rfl); (case hr => first | (go_simp; done) | (go_simp; rfl)); intro gb430 hg w11 hbox hb; have n0_ := Aside0.mk (Kd.R_below x64_23 hb); have n1_ := Aside0.mk (below_step x64_12 hb); have n2_ := Aside0.mk (hbox); have n3_ := Aside0.mk ((by rw [hg]; exact (below_size x64_12) : w.heap.size ≤ gb430)); have n4_ := Aside0.mk ((by rw [hg]; exact (below_size x64_12) : w.heap.size ≤ gb430)); clear HO427; clear HB; have HO427 := n0_; have HB := n1_; have BK430 := n2_; have GW430 := n3_; have GE430 := n4_; clear n0_ n1_ n2_ n3_ n4_; clear hb hbox hg; have hcz12_0 : w11.cell? ⟨gb430, 0, none⟩ = some (.int .i64 0) := (blk_cell BK430.out 0).trans rfl; have hcz12_1 : w11.cell? ⟨gb430, 1, none⟩ = some (.int .i64 0) := (blk_cell BK430.out 1).trans rfl; have hfz12_0 := blk_frozen BK430.out 0; have hfz12_1 := blk_frozen BK430.out 1; obtain ⟨Ao13, co13, eo13⟩ := Kd.R_slice HO427.out; subst eo13; have p431 : 0 ≤ (1 : Int) := (by omega); have q431 : 1 < (t425.length : Int) := of_decide_eq_true x64_28; obtain ⟨ad431, e431, hx431_0, hx431_1, hx431_2, hx431_3, hx431_4⟩ := at_T30 (Kd.R_reads' HO427.out).2.2 1 p431 q431; cases e431; (try simp only [show (1 : Int).toNat = 1 from rfl, Nat.reduceMul, Nat.reduceEqDiff, Go.Addr.add, ↓reduceIte] at hx431_0); (try simp only [show (1 : Int).toNat = 1 from rfl, Nat.reduceMul, Nat.reduceEqDiff, Go.Addr.add, ↓reduceIte] at hx431_1); (try simp only [show (1 : Int).toNat = 1 from rfl, Nat.reduceMul, Nat.reduceEqDiff, Go.Addr.add, ↓reduceIte] at hx431_2); (try simp only [show (1 : Int).toNat = 1 from rfl, Nat.reduceMul, Nat.reduceEqDiff, Go.Addr.add, ↓reduceIte] at hx431_3); (try simp only [show (1 : Int).toNat = 1 from rfl, Nat.reduceMul, Nat.reduceEqDiff, Go.Addr.add, ↓reduceIte] at hx431_4); have qi431 : (1 < t425.length) = True := eq_true (by omega); (try rw [show ((1 : Int)).toNat = 1 from rfl] at hx431_0); (try rw [show 1 * 5 = 5 from rfl] at hx431_0); (try rw [show ((1 : Int)).toNat = 1 from rfl] at hx431_1); (try rw [show 1 * 5 = 5 from rfl] at hx431_1); (try rw [show ((1 : Int)).toNat = 1 from rfl] at hx431_2); (try rw [show 1 * 5 = 5 from rfl] at hx431_2); (try rw [show ((1 : Int)).toNat = 1 from rfl] at hx431_3); (try rw [show 1 * 5 = 5 from rfl] at hx431_3); (try rw [show ((1 : Int)).toNat = 1 from rfl] at hx431_4); (try rw [show 1 * 5 = 5 from rfl] at hx431_4); have hn431_0 : ad431.block ≠ gb430 := Kd.own_blk (Kd.R_ne HO427.out BK430.out (by decide)); have hn431_1 : ad431.block ≠ gb430 := Kd.own_blk (Kd.R_ne HO427.out BK430.out (by decide)); replace hx431_0 := (cell_far (p := ⟨gb430, 0, none⟩) x64_15 (.int .i64 t428)).trans hx431_0; replace hx431_1 := (cell_far (p := ⟨gb430, 0, none⟩) x64_15 (.int .i64 t428)).trans hx431_1; replace hx431_2 := (cell_far (p := ⟨gb430, 0, none⟩) x64_15 (.int .i64 t428)).trans hx431_2; replace hx431_3 := (cell_far (p := ⟨gb430, 0, none⟩) x64_15 (.int .i64 t428)).trans hx431_3; replace hx431_4 := (cell_far (p := ⟨gb430, 0, none⟩) x64_15 (.int .i64 t428)).trans hx431_4; replace hx431_0 := (cell_far (p := ⟨gb430, 1, none⟩) x64_16 (.int .i64 t429)).trans hx431_0; replace hx431_1 := (cell_far (p := ⟨gb430, 1, none⟩) x64_16 (.int .i64 t429)).trans hx431_1; replace hx431_2 := (cell_far (p := ⟨gb430, 1, none⟩) x64_16 (.int .i64 t429)).trans hx431_2; replace hx431_3 := (cell_far (p := ⟨gb430, 1, none⟩) x64_16 (.int .i64 t429)).trans hx431_3; replace hx431_4 := (cell_far (p := ⟨gb430, 1, none⟩) x64_16 (.int .i64 t429)).trans hx431_4; clear hn431_0; clear hn431_1; replace p431 := eq_true p431; replace q431 := eq_true q431; have p432 : 0 ≤ (4 : Int) := (by omega); have q432 : 4 < (t425.length : Int) := of_decide_eq_true x64_28; obtain ⟨ad432, e432, hx432_0, hx432_1, hx432_2, hx432_3, hx432_4⟩ := at_T30 (Kd.R_reads' HO427.out).2.2 4 p432 q432; obtain rfl : ad431 = ad432 := (by injection e432); (try simp only [show (4 : Int).toNat = 4 from rfl, Nat.reduceMul, Nat.reduceEqDiff, Go.Addr.add, ↓reduceIte] at hx432_0); (try simp only [show (4 : Int).toNat = 4 from rfl, Nat.reduceMul, Nat.reduceEqDiff, Go.Addr.add, ↓reduceIte] at hx432_1); (try simp only [show (4 : Int).toNat = 4 from rfl, Nat.reduceMul, Nat.reduceEqDiff, Go.Addr.add, ↓reduceIte] at hx432_2); (try simp only [show (4 : Int).toNat = 4 from rfl, Nat.reduceMul, Nat.reduceEqDiff, Go.Addr.add, ↓reduceIte] at hx432_3); (try simp only [show (4 : Int).toNat = 4 from rfl, Nat.reduceMul, Nat.reduceEqDiff, Go.Addr.add, ↓reduceIte] at hx432_4); have qi432 : (4 < t425.length) = True := eq_true (by omega); (try rw [show ((4 : Int)).toNat = 4 from rfl] at hx432_0); (try rw [show 4 * 5 = 20 from rfl] at hx432_0); (try rw [show ((4 : Int)).toNat = 4 from rfl] at hx432_1); (try rw [show 4 * 5 = 20 from rfl] at hx432_1); (try rw [show ((4 : Int)).toNat = 4 from rfl] at hx432_2); (try rw [show 4 * 5 = 20 from rfl] at hx432_2); (try rw [show ((4 : Int)).toNat = 4 from rfl] at hx432_3); (try rw [show 4 * 5 = 20 from rfl] at hx432_3); (try rw [show ((4 : Int)).toNat = 4 from rfl] at hx432_4); (try rw [show 4 * 5 = 20 from rfl] at hx432_4); have hn432_0 : ad431.block ≠ gb430 := Kd.own_blk (Kd.R_ne HO427.out BK430.out (by decide)); have hn432_1 : ad431.block ≠ gb430 := Kd.own_blk (Kd.R_ne HO427.out BK430.out (by decide)); replace hx432_0 := (cell_far (p := ⟨gb430, 0, none⟩) x64_17 (.int .i64 t428)).trans hx432_0; replace hx432_1 := (cell_far (p := ⟨gb430, 0, none⟩) x64_17 (.int .i64 t428)).trans hx432_1; replace hx432_2 := (cell_far (p := ⟨gb430, 0, none⟩) x64_17 (.int .i64 t428)).trans hx432_2; replace hx432_3 := (cell_far (p := ⟨gb430, 0, none⟩) x64_17 (.int .i64 t428)).trans hx432_3; replace hx432_4 := (cell_far (p := ⟨gb430, 0, none⟩) x64_17 (.int .i64 t428)).trans hx432_4; replace hx432_0 := (cell_far (p := ⟨gb430, 1, none⟩) x64_18 (.int .i64 t429)).trans hx432_0; replace hx432_1 := (cell_far (p := ⟨gb430, 1, none⟩) x64_18 (.int .i64 t429)).trans hx432_1; replace hx432_2 := (cell_far (p := ⟨gb430, 1, none⟩) x64_18 (.int .i64 t429)).trans hx432_2; replace hx432_3 := (cell_far (p := ⟨gb430, 1, none⟩) x64_18 (.int .i64 t429)).trans hx432_3; replace hx432_4 := (cell_far (p := ⟨gb430, 1, none⟩) x64_18 (.int .i64 t429)).trans hx432_4; clear hn432_0; clear hn432_1; replace p432 := eq_true p432; replace q432 := eq_true q432; have p433 : 0 ≤ (6 : Int) := (by omega); have q433 : 6 < (t425.length : Int) := of_decide_eq_true x64_28; obtain ⟨ad433, e433, hx433_0, hx433_1, hx433_2, hx433_3, hx433_4⟩ := at_T30 (Kd.R_reads' HO427.out).2.2 6 p433 q433; obtain rfl : ad431 = ad433 := (by injection e433); (try simp only [show (6 : Int).toNat = 6 from rfl, Nat.reduceMul, Nat.reduceEqDiff, Go.Addr.add, ↓reduceIte] at hx433_0); (try simp only [show (6 : Int).toNat = 6 from rfl, Nat.reduceMul, Nat.reduceEqDiff, Go.Addr.add, ↓reduceIte] at hx433_1); (try simp only [show (6 : Int).toNat = 6 from rfl, Nat.reduceMul, Nat.reduceEqDiff, Go.Addr.add, ↓reduceIte] at hx433_2); (try simp only [show (6 : Int).toNat = 6 from rfl, Nat.reduceMul, Nat.reduceEqDiff, Go.Addr.add, ↓reduceIte] at hx433_3); (try simp only [show (6 : Int).toNat = 6 from rfl, Nat.reduceMul, Nat.reduceEqDiff, Go.Addr.add, ↓reduceIte] at hx433_4); have qi433 : (6 < t425.length) = True := eq_true (by omega); (try rw [show ((6 : Int)).toNat = 6 from rfl] at hx433_0); (try rw [show 6 * 5 = 30 from rfl] at hx433_0); (try rw [show ((6 : Int)).toNat = 6 from rfl] at hx433_1); (try rw [show 6 * 5 = 30 from rfl] at hx433_1); (try rw [show ((6 : Int)).toNat = 6 from rfl] at hx433_2); (try rw [show 6 * 5 = 30 from rfl] at hx433_2); (try rw [show ((6 : Int)).toNat = 6 from rfl] at hx433_3); (try rw [show 6 * 5 = 30 from rfl] at hx433_3); (try rw [show ((6 : Int)).toNat = 6 from rfl] at hx433_4); (try rw [show 6 * 5 = 30 from rfl] at hx433_4); have hn433_0 : ad431.block ≠ gb430 := Kd.own_blk (Kd.R_ne HO427.out BK430.out (by decide)); have hn433_1 : ad431.block ≠ gb430 := Kd.own_blk (Kd.R_ne HO427.out BK430.out (by decide)); replace hx433_0 := (cell_far (p := ⟨gb430, 0, none⟩) x64_19 (.int .i64 t428)).trans hx433_0; replace hx433_1 := (cell_far (p := ⟨gb430, 0, none⟩) x64_19 (.int .i64 t428)).trans hx433_1; replace hx433_2 := (cell_far (p := ⟨gb430, 0, none⟩) x64_19 (.int .i64 t428)).trans hx433_2; replace hx433_3 := (cell_far (p := ⟨gb430, 0, none⟩) x64_19 (.int .i64 t428)).trans hx433_3; replace hx433_4 := (cell_far (p := ⟨gb430, 0, none⟩) x64_19 (.int .i64 t428)).trans hx433_4; replace hx433_0 := (cell_far (p := ⟨gb430, 1, none⟩) x64_20 (.int .i64 t429)).trans hx433_0; replace hx433_1 := (cell_far (p := ⟨gb430, 1, none⟩) x64_20 (.int .i64 t429)).trans hx433_1; replace hx433_2 := (cell_far (p := ⟨gb430, 1, none⟩) x64_20 (.int .i64 t429)).trans hx433_2; replace hx433_3 := (cell_far (p := ⟨gb430, 1, none⟩) x64_20 (.int .i64 t429)).trans hx433_3; replace hx433_4 := (cell_far (p := ⟨gb430, 1, none⟩) x64_20 (.int .i64 t429)).trans hx433_4; clear hn433_0; clear hn433_1; replace p433 := eq_true p433; replace q433 := eq_true q433; have p434 : 0 ≤ (6 : Int) := (by omega); have q434 : 6 < (t425.length : Int) := of_decide_eq_true x64_28; obtain ⟨ad434, e434, hx434_0, hx434_1, hx434_2, hx434_3, hx434_4⟩ := at_T30 (Kd.R_reads' HO427.out).2.2 6 p434 q434; obtain rfl : ad431 = ad434 := (by injection e434); (try simp only [show (6 : Int).toNat = 6 from rfl, Nat.reduceMul, Nat.reduceEqDiff, Go.Addr.add, ↓reduceIte] at hx434_0); (try simp only [show (6 : Int).toNat = 6 from rfl, Nat.reduceMul, Nat.reduceEqDiff, Go.Addr.add, ↓reduceIte] at hx434_1); (try simp only [show (6 : Int).toNat = 6 from rfl, Nat.reduceMul, Nat.reduceEqDiff, Go.Addr.add, ↓reduceIte] at hx434_2); (try simp only [show (6 : Int).toNat = 6 from rfl, Nat.reduceMul, Nat.reduceEqDiff, Go.Addr.add, ↓reduceIte] at hx434_3); (try simp only [show (6 : Int).toNat = 6 from rfl, Nat.reduceMul, Nat.reduceEqDiff, Go.Addr.add, ↓reduceIte] at hx434_4); have qi434 : (6 < t425.length) = True := eq_true (by omega); (try rw [show ((6 : Int)).toNat = 6 from rfl] at hx434_0); (try rw [show 6 * 5 = 30 from rfl] at hx434_0); (try rw [show ((6 : Int)).toNat = 6 from rfl] at hx434_1); (try rw [show 6 * 5 = 30 from rfl] at hx434_1); (try rw [show ((6 : Int)).toNat = 6 from rfl] at hx434_2); (try rw [show 6 * 5 = 30 from rfl] at hx434_2); (try rw [show ((6 : Int)).toNat = 6 from rfl] at hx434_3); (try rw [show 6 * 5 = 30 from rfl] at hx434_3); (try rw [show ((6 : Int)).toNat = 6 from rfl] at hx434_4); (try rw [show 6 * 5 = 30 from rfl] at hx434_4); have hn434_0 : ad431.block ≠ gb430 := Kd.own_blk (Kd.R_ne HO427.out BK430.out (by decide)); have hn434_1 : ad431.block ≠ gb430 := Kd.own_blk (Kd.R_ne HO427.out BK430.out (by decide)); replace hx434_0 := (cell_far (p := ⟨gb430, 0, none⟩) x64_21 (.int .i64 t428)).trans hx434_0; replace hx434_1 := (cell_far (p := ⟨gb430, 0, none⟩) x64_21 (.int .i64 t428)).trans hx434_1; replace hx434_2 := (cell_far (p := ⟨gb430, 0, none⟩) x64_21 (.int .i64 t428)).trans hx434_2; replace hx434_3 := (cell_far (p := ⟨gb430, 0, none⟩) x64_21 (.int .i64 t428)).trans hx434_3; replace hx434_4 := (cell_far (p := ⟨gb430, 0, none⟩) x64_21 (.int .i64 t428)).trans hx434_4; replace hx434_0 := (cell_far (p := ⟨gb430, 1, none⟩) x64_22 (.int .i64 t429)).trans hx434_0; replace hx434_1 := (cell_far (p := ⟨gb430, 1, none⟩) x64_22 (.int .i64 t429)).trans hx434_1; replace hx434_2 := (cell_far (p := ⟨gb430, 1, none⟩) x64_22 (.int .i64 t429)).trans hx434_2; replace hx434_3 := (cell_far (p := ⟨gb430, 1, none⟩) x64_22 (.int .i64 t429)).trans hx434_3; replace hx434_4 := (cell_far (p := ⟨gb430, 1, none⟩) x64_22 (.int .i64 t429)).trans hx434_4; clear hn434_0; clear hn434_1; replace p434 := eq_true p434; replace q434 := eq_true q434))
         go_ret
         exact ⟨x64_27, x64_9⟩
        ·rw [if_neg c9] at H
         have c9b0 : (((rd_T30 t425 6).f1) == 14) = false := beq_eq_false_iff_ne.mpr c9
         have c9b1 : (((rd_T30 t425 6).f1) != 14) = true := bne_iff_ne.mpr c9
         obtain rfl := Option.some.inj H
         go_enter Tryd.func12, Tryd.ntmps12
         go_wp2_with (first | ((with_reducible refine gate_callee (f := 9) rfl ?_); refine goesL_ (some 4) rfl rfl Tryd.func9 (by kernel_rfl) rfl #[.string (⟨#[108, 101, 116, 32, 120, 61, 49, 46, 46, 50, 32, 35, 32, 121]⟩ : ByteArray)] rfl x64_11 ?_; (with_reducible refine (lex_All.calls (hG := x64_4) (⟨#[108, 101, 116, 32, 120, 61, 49, 46, 46, 50, 32, 35, 32, 121]⟩ : ByteArray) t425 t428 t429 _ A1.out).mono ?_); rintro e w14 ⟨v426, rfl, ho0, hb⟩; refine ⟨_, rfl, ?_⟩; have n0_ := Aside0.mk (Kd.R_lower ho0 (below_size x64_12)); have n1_ := Aside0.mk (below_step x64_12 hb); clear HB; have HO427 := n0_; have HB := n1_; clear n0_ n1_) | ((with_reducible refine gate_dst (N := 2) rfl ?_); refine box_event ?hg (N := 2) ?hd (cs := #[.int .i64 0, .int .i64 0]) (t := 25) ?hr ?_; (case hd => rfl); (case hg => rfl); (case hr => first | (go_simp; done) | (go_simp; rfl)); intro gb430 hg w15 hbox hb; have n0_ := Aside0.mk (Kd.R_below x64_23 hb); have n1_ := Aside0.mk (below_step x64_12 hb); have n2_ := Aside0.mk (hbox); have n3_ := Aside0.mk ((by rw [hg]; exact (below_size x64_12) : w.heap.size ≤ gb430)); have n4_ := Aside0.mk ((by rw [hg]; exact (below_size x64_12) : w.heap.size ≤ gb430)); clear HO427; clear HB; have HO427 := n0_; have HB := n1_; have BK430 := n2_; have GW430 := n3_; have GE430 := n4_; clear n0_ n1_ n2_ n3_ n4_; clear hb hbox hg; have hcz16_0 : w15.cell? ⟨gb430, 0, none⟩ = some (.int .i64 0) := (blk_cell BK430.out 0).trans rfl; have hcz16_1 : w15.cell? ⟨gb430, 1, none⟩ = some (.int .i64 0) := (blk_cell BK430.out 1).trans rfl; have hfz16_0 := blk_frozen BK430.out 0; have hfz16_1 := blk_frozen BK430.out 1; obtain ⟨Ao17, co17, eo17⟩ := Kd.R_slice HO427.out; subst eo17; have p431 : 0 ≤ (1 : Int) := (by omega); have q431 : 1 < (t425.length : Int) := of_decide_eq_true x64_28; obtain ⟨ad431, e431, hx431_0, hx431_1, hx431_2, hx431_3, hx431_4⟩ := at_T30 (Kd.R_reads' HO427.out).2.2 1 p431 q431; cases e431; (try simp only [show (1 : Int).toNat = 1 from rfl, Nat.reduceMul, Nat.reduceEqDiff, Go.Addr.add, ↓reduceIte] at hx431_0); (try simp only [show (1 : Int).toNat = 1 from rfl, Nat.reduceMul, Nat.reduceEqDiff, Go.Addr.add, ↓reduceIte] at hx431_1); (try simp only [show (1 : Int).toNat = 1 from rfl, Nat.reduceMul, Nat.reduceEqDiff, Go.Addr.add, ↓reduceIte] at hx431_2); (try simp only [show (1 : Int).toNat = 1 from rfl, Nat.reduceMul, Nat.reduceEqDiff, Go.Addr.add, ↓reduceIte] at hx431_3); (try simp only [show (1 : Int).toNat = 1 from rfl, Nat.reduceMul, Nat.reduceEqDiff, Go.Addr.add, ↓reduceIte] at hx431_4); have qi431 : (1 < t425.length) = True := eq_true (by omega); (try rw [show ((1 : Int)).toNat = 1 from rfl] at hx431_0); (try rw [show 1 * 5 = 5 from rfl] at hx431_0); (try rw [show ((1 : Int)).toNat = 1 from rfl] at hx431_1); (try rw [show 1 * 5 = 5 from rfl] at hx431_1); (try rw [show ((1 : Int)).toNat = 1 from rfl] at hx431_2); (try rw [show 1 * 5 = 5 from rfl] at hx431_2); (try rw [show ((1 : Int)).toNat = 1 from rfl] at hx431_3); (try rw [show 1 * 5 = 5 from rfl] at hx431_3); (try rw [show ((1 : Int)).toNat = 1 from rfl] at hx431_4); (try rw [show 1 * 5 = 5 from rfl] at hx431_4); have hn431_0 : ad431.block ≠ gb430 := Kd.own_blk (Kd.R_ne HO427.out BK430.out (by decide)); have hn431_1 : ad431.block ≠ gb430 := Kd.own_blk (Kd.R_ne HO427.out BK430.out (by decide)); replace hx431_0 := (cell_far (p := ⟨gb430, 0, none⟩) x64_15 (.int .i64 t428)).trans hx431_0; replace hx431_1 := (cell_far (p := ⟨gb430, 0, none⟩) x64_15 (.int .i64 t428)).trans hx431_1; replace hx431_2 := (cell_far (p := ⟨gb430, 0, none⟩) x64_15 (.int .i64 t428)).trans hx431_2; replace hx431_3 := (cell_far (p := ⟨gb430, 0, none⟩) x64_15 (.int .i64 t428)).trans hx431_3; replace hx431_4 := (cell_far (p := ⟨gb430, 0, none⟩) x64_15 (.int .i64 t428)).trans hx431_4; replace hx431_0 := (cell_far (p := ⟨gb430, 1, none⟩) x64_16 (.int .i64 t429)).trans hx431_0; replace hx431_1 := (cell_far (p := ⟨gb430, 1, none⟩) x64_16 (.int .i64 t429)).trans hx431_1; replace hx431_2 := (cell_far (p := ⟨gb430, 1, none⟩) x64_16 (.int .i64 t429)).trans hx431_2; replace hx431_3 := (cell_far (p := ⟨gb430, 1, none⟩) x64_16 (.int .i64 t429)).trans hx431_3; replace hx431_4 := (cell_far (p := ⟨gb430, 1, none⟩) x64_16 (.int .i64 t429)).trans hx431_4; clear hn431_0; clear hn431_1; replace p431 := eq_true p431; replace q431 := eq_true q431; have p432 : 0 ≤ (4 : Int) := (by omega); have q432 : 4 < (t425.length : Int) := of_decide_eq_true x64_28; obtain ⟨ad432, e432, hx432_0, hx432_1, hx432_2, hx432_3, hx432_4⟩ := at_T30 (Kd.R_reads' HO427.out).2.2 4 p432 q432; obtain rfl : ad431 = ad432 := (by injection e432); (try simp only [show (4 : Int).toNat = 4 from rfl, Nat.reduceMul, Nat.reduceEqDiff, Go.Addr.add, ↓reduceIte] at hx432_0); (try simp only [show (4 : Int).toNat = 4 from rfl, Nat.reduceMul, Nat.reduceEqDiff, Go.Addr.add, ↓reduceIte] at hx432_1); (try simp only [show (4 : Int).toNat = 4 from rfl, Nat.reduceMul, Nat.reduceEqDiff, Go.Addr.add, ↓reduceIte] at hx432_2); (try simp only [show (4 : Int).toNat = 4 from rfl, Nat.reduceMul, Nat.reduceEqDiff, Go.Addr.add, ↓reduceIte] at hx432_3); (try simp only [show (4 : Int).toNat = 4 from rfl, Nat.reduceMul, Nat.reduceEqDiff, Go.Addr.add, ↓reduceIte] at hx432_4); have qi432 : (4 < t425.length) = True := eq_true (by omega); (try rw [show ((4 : Int)).toNat = 4 from rfl] at hx432_0); (try rw [show 4 * 5 = 20 from rfl] at hx432_0); (try rw [show ((4 : Int)).toNat = 4 from rfl] at hx432_1); (try rw [show 4 * 5 = 20 from rfl] at hx432_1); (try rw [show ((4 : Int)).toNat = 4 from rfl] at hx432_2); (try rw [show 4 * 5 = 20 from rfl] at hx432_2); (try rw [show ((4 : Int)).toNat = 4 from rfl] at hx432_3); (try rw [show 4 * 5 = 20 from rfl] at hx432_3); (try rw [show ((4 : Int)).toNat = 4 from rfl] at hx432_4); (try rw [show 4 * 5 = 20 from rfl] at hx432_4); have hn432_0 : ad431.block ≠ gb430 := Kd.own_blk (Kd.R_ne HO427.out BK430.out (by decide)); have hn432_1 : ad431.block ≠ gb430 := Kd.own_blk (Kd.R_ne HO427.out BK430.out (by decide)); replace hx432_0 := (cell_far (p := ⟨gb430, 0, none⟩) x64_17 (.int .i64 t428)).trans hx432_0; replace hx432_1 := (cell_far (p := ⟨gb430, 0, none⟩) x64_17 (.int .i64 t428)).trans hx432_1; replace hx432_2 := (cell_far (p := ⟨gb430, 0, none⟩) x64_17 (.int .i64 t428)).trans hx432_2; replace hx432_3 := (cell_far (p := ⟨gb430, 0, none⟩) x64_17 (.int .i64 t428)).trans hx432_3; replace hx432_4 := (cell_far (p := ⟨gb430, 0, none⟩) x64_17 (.int .i64 t428)).trans hx432_4; replace hx432_0 := (cell_far (p := ⟨gb430, 1, none⟩) x64_18 (.int .i64 t429)).trans hx432_0; replace hx432_1 := (cell_far (p := ⟨gb430, 1, none⟩) x64_18 (.int .i64 t429)).trans hx432_1; replace hx432_2 := (cell_far (p := ⟨gb430, 1, none⟩) x64_18 (.int .i64 t429)).trans hx432_2; replace hx432_3 := (cell_far (p := ⟨gb430, 1, none⟩) x64_18 (.int .i64 t429)).trans hx432_3; replace hx432_4 := (cell_far (p := ⟨gb430, 1, none⟩) x64_18 (.int .i64 t429)).trans hx432_4; clear hn432_0; clear hn432_1; replace p432 := eq_true p432; replace q432 := eq_true q432; have p433 : 0 ≤ (6 : Int) := (by omega); have q433 : 6 < (t425.length : Int) := of_decide_eq_true x64_28; obtain ⟨ad433, e433, hx433_0, hx433_1, hx433_2, hx433_3, hx433_4⟩ := at_T30 (Kd.R_reads' HO427.out).2.2 6 p433 q433; obtain rfl : ad431 = ad433 := (by injection e433); (try simp only [show (6 : Int).toNat = 6 from rfl, Nat.reduceMul, Nat.reduceEqDiff, Go.Addr.add, ↓reduceIte] at hx433_0); (try simp only [show (6 : Int).toNat = 6 from rfl, Nat.reduceMul, Nat.reduceEqDiff, Go.Addr.add, ↓reduceIte] at hx433_1); (try simp only [show (6 : Int).toNat = 6 from rfl, Nat.reduceMul, Nat.reduceEqDiff, Go.Addr.add, ↓reduceIte] at hx433_2); (try simp only [show (6 : Int).toNat = 6 from rfl, Nat.reduceMul, Nat.reduceEqDiff, Go.Addr.add, ↓reduceIte] at hx433_3); (try simp only [show (6 : Int).toNat = 6 from rfl, Nat.reduceMul, Nat.reduceEqDiff, Go.Addr.add, ↓reduceIte] at hx433_4); have qi433 : (6 < t425.length) = True := eq_true (by omega); (try rw [show ((6 : Int)).toNat = 6 from rfl] at hx433_0); (try rw [show 6 * 5 = 30 from rfl] at hx433_0); (try rw [show ((6 : Int)).toNat = 6 from rfl] at hx433_1); (try rw [show 6 * 5 = 30 from rfl] at hx433_1); (try rw [show ((6 : Int)).toNat = 6 from rfl] at hx433_2); (try rw [show 6 * 5 = 30 from rfl] at hx433_2); (try rw [show ((6 : Int)).toNat = 6 from rfl] at hx433_3); (try rw [show 6 * 5 = 30 from rfl] at hx433_3); (try rw [show ((6 : Int)).toNat = 6 from rfl] at hx433_4); (try rw [show 6 * 5 = 30 from rfl] at hx433_4); have hn433_0 : ad431.block ≠ gb430 := Kd.own_blk (Kd.R_ne HO427.out BK430.out (by decide)); have hn433_1 : ad431.block ≠ gb430 := Kd.own_blk (Kd.R_ne HO427.out BK430.out (by decide)); replace hx433_0 := (cell_far (p := ⟨gb430, 0, none⟩) x64_19 (.int .i64 t428)).trans hx433_0; replace hx433_1 := (cell_far (p := ⟨gb430, 0, none⟩) x64_19 (.int .i64 t428)).trans hx433_1; replace hx433_2 := (cell_far (p := ⟨gb430, 0, none⟩) x64_19 (.int .i64 t428)).trans hx433_2; replace hx433_3 := (cell_far (p := ⟨gb430, 0, none⟩) x64_19 (.int .i64 t428)).trans hx433_3; replace hx433_4 := (cell_far (p := ⟨gb430, 0, none⟩) x64_19 (.int .i64 t428)).trans hx433_4; replace hx433_0 := (cell_far (p := ⟨gb430, 1, none⟩) x64_20 (.int .i64 t429)).trans hx433_0; replace hx433_1 := (cell_far (p := ⟨gb430, 1, none⟩) x64_20 (.int .i64 t429)).trans hx433_1; replace hx433_2 := (cell_far (p := ⟨gb430, 1, none⟩) x64_20 (.int .i64 t429)).trans hx433_2; replace hx433_3 := (cell_far (p := ⟨gb430, 1, none⟩) x64_20 (.int .i64 t429)).trans hx433_3; replace hx433_4 := (cell_far (p := ⟨gb430, 1, none⟩) x64_20 (.int .i64 t429)).trans hx433_4; clear hn433_0; clear hn433_1; replace p433 := eq_true p433; replace q433 := eq_true q433; have p434 : 0 ≤ (6 : Int) := (by omega); have q434 : 6 < (t425.length : Int) := of_decide_eq_true x64_28; obtain ⟨ad434, e434, hx434_0, hx434_1, hx434_2, hx434_3, hx434_4⟩ := at_T30 (Kd.R_reads' HO427.out).2.2 6 p434 q434; obtain rfl : ad431 = ad434 := (by injection e434); (try simp only [show (6 : Int).toNat = 6 from rfl, Nat.reduceMul, Nat.reduceEqDiff, Go.Addr.add, ↓reduceIte] at hx434_0); (try simp only [show (6 : Int).toNat = 6 from rfl, Nat.reduceMul, Nat.reduceEqDiff, Go.Addr.add, ↓reduceIte] at hx434_1); (try simp only [show (6 : Int).toNat = 6 from rfl, Nat.reduceMul, Nat.reduceEqDiff, Go.Addr.add, ↓reduceIte] at hx434_2); (try simp only [show (6 : Int).toNat = 6 from rfl, Nat.reduceMul, Nat.reduceEqDiff, Go.Addr.add, ↓reduceIte] at hx434_3); (try simp only [show (6 : Int).toNat = 6 from rfl, Nat.reduceMul, Nat.reduceEqDiff, Go.Addr.add, ↓reduceIte] at hx434_4); have qi434 : (6 < t425.length) = True := eq_true (by omega); (try rw [show ((6 : Int)).toNat = 6 from rfl] at hx434_0); (try rw [show 6 * 5 = 30 from rfl] at hx434_0); (try rw [show ((6 : Int)).toNat = 6 from rfl] at hx434_1); (try rw [show 6 * 5 = 30 from rfl] at hx434_1); (try rw [show ((6 : Int)).toNat = 6 from rfl] at hx434_2); (try rw [show 6 * 5 = 30 from rfl] at hx434_2); (try rw [show ((6 : Int)).toNat = 6 from rfl] at hx434_3); (try rw [show 6 * 5 = 30 from rfl] at hx434_3); (try rw [show ((6 : Int)).toNat = 6 from rfl] at hx434_4); (try rw [show 6 * 5 = 30 from rfl] at hx434_4); have hn434_0 : ad431.block ≠ gb430 := Kd.own_blk (Kd.R_ne HO427.out BK430.out (by decide)); have hn434_1 : ad431.block ≠ gb430 := Kd.own_blk (Kd.R_ne HO427.out BK430.out (by decide)); replace hx434_0 := (cell_far (p := ⟨gb430, 0, none⟩) x64_21 (.int .i64 t428)).trans hx434_0; replace hx434_1 := (cell_far (p := ⟨gb430, 0, none⟩) x64_21 (.int .i64 t428)).trans hx434_1; replace hx434_2 := (cell_far (p := ⟨gb430, 0, none⟩) x64_21 (.int .i64 t428)).trans hx434_2; replace hx434_3 := (cell_far (p := ⟨gb430, 0, none⟩) x64_21 (.int .i64 t428)).trans hx434_3; replace hx434_4 := (cell_far (p := ⟨gb430, 0, none⟩) x64_21 (.int .i64 t428)).trans hx434_4; replace hx434_0 := (cell_far (p := ⟨gb430, 1, none⟩) x64_22 (.int .i64 t429)).trans hx434_0; replace hx434_1 := (cell_far (p := ⟨gb430, 1, none⟩) x64_22 (.int .i64 t429)).trans hx434_1; replace hx434_2 := (cell_far (p := ⟨gb430, 1, none⟩) x64_22 (.int .i64 t429)).trans hx434_2; replace hx434_3 := (cell_far (p := ⟨gb430, 1, none⟩) x64_22 (.int .i64 t429)).trans hx434_3; replace hx434_4 := (cell_far (p := ⟨gb430, 1, none⟩) x64_22 (.int .i64 t429)).trans hx434_4; clear hn434_0; clear hn434_1; replace p434 := eq_true p434; replace q434 := eq_true q434))
         go_ret
         exact ⟨x64_27, x64_9⟩
       ·rw [if_neg c8] at H
        have c8b0 : (((rd_T30 t425 6).f0) == 7) = false := beq_eq_false_iff_ne.mpr c8
        have c8b1 : (((rd_T30 t425 6).f0) != 7) = true := bne_iff_ne.mpr c8
        obtain rfl := Option.some.inj H
        go_enter Tryd.func12, Tryd.ntmps12
        go_wp2_with (first | ((with_reducible refine gate_callee (f := 9) rfl ?_); refine goesL_ (some 4) rfl rfl Tryd.func9 (by kernel_rfl) rfl #[.string (⟨#[108, 101, 116, 32, 120, 61, 49, 46, 46, 50, 32, 35, 32, 121]⟩ : ByteArray)] rfl x64_11 ?_; (with_reducible refine (lex_All.calls (hG := x64_4) (⟨#[108, 101, 116, 32, 120, 61, 49, 46, 46, 50, 32, 35, 32, 121]⟩ : ByteArray) t425 t428 t429 _ A1.out).mono ?_); rintro e w18 ⟨v426, rfl, ho0, hb⟩; refine ⟨_, rfl, ?_⟩; have n0_ := Aside0.mk (Kd.R_lower ho0 (below_size x64_12)); have n1_ := Aside0.mk (below_step x64_12 hb); clear HB; have HO427 := n0_; have HB := n1_; clear n0_ n1_) | ((with_reducible refine gate_dst (N := 2) rfl ?_); refine box_event ?hg (N := 2) ?hd (cs := #[.int .i64 0, .int .i64 0]) (t := 25) ?hr ?_; (case hd => rfl); (case hg => rfl); (case hr => first | (go_simp; done) | (go_simp; rfl)); intro gb430 hg w19 hbox hb; have n0_ := Aside0.mk (Kd.R_below x64_23 hb); have n1_ := Aside0.mk (below_step x64_12 hb); have n2_ := Aside0.mk (hbox); have n3_ := Aside0.mk ((by rw [hg]; exact (below_size x64_12) : w.heap.size ≤ gb430)); have n4_ := Aside0.mk ((by rw [hg]; exact (below_size x64_12) : w.heap.size ≤ gb430)); clear HO427; clear HB; have HO427 := n0_; have HB := n1_; have BK430 := n2_; have GW430 := n3_; have GE430 := n4_; clear n0_ n1_ n2_ n3_ n4_; clear hb hbox hg; have hcz20_0 : w19.cell? ⟨gb430, 0, none⟩ = some (.int .i64 0) := (blk_cell BK430.out 0).trans rfl; have hcz20_1 : w19.cell? ⟨gb430, 1, none⟩ = some (.int .i64 0) := (blk_cell BK430.out 1).trans rfl; have hfz20_0 := blk_frozen BK430.out 0; have hfz20_1 := blk_frozen BK430.out 1; obtain ⟨Ao21, co21, eo21⟩ := Kd.R_slice HO427.out; subst eo21; have p431 : 0 ≤ (1 : Int) := (by omega); have q431 : 1 < (t425.length : Int) := of_decide_eq_true x64_28; obtain ⟨ad431, e431, hx431_0, hx431_1, hx431_2, hx431_3, hx431_4⟩ := at_T30 (Kd.R_reads' HO427.out).2.2 1 p431 q431; cases e431; (try simp only [show (1 : Int).toNat = 1 from rfl, Nat.reduceMul, Nat.reduceEqDiff, Go.Addr.add, ↓reduceIte] at hx431_0); (try simp only [show (1 : Int).toNat = 1 from rfl, Nat.reduceMul, Nat.reduceEqDiff, Go.Addr.add, ↓reduceIte] at hx431_1); (try simp only [show (1 : Int).toNat = 1 from rfl, Nat.reduceMul, Nat.reduceEqDiff, Go.Addr.add, ↓reduceIte] at hx431_2); (try simp only [show (1 : Int).toNat = 1 from rfl, Nat.reduceMul, Nat.reduceEqDiff, Go.Addr.add, ↓reduceIte] at hx431_3); (try simp only [show (1 : Int).toNat = 1 from rfl, Nat.reduceMul, Nat.reduceEqDiff, Go.Addr.add, ↓reduceIte] at hx431_4); have qi431 : (1 < t425.length) = True := eq_true (by omega); (try rw [show ((1 : Int)).toNat = 1 from rfl] at hx431_0); (try rw [show 1 * 5 = 5 from rfl] at hx431_0); (try rw [show ((1 : Int)).toNat = 1 from rfl] at hx431_1); (try rw [show 1 * 5 = 5 from rfl] at hx431_1); (try rw [show ((1 : Int)).toNat = 1 from rfl] at hx431_2); (try rw [show 1 * 5 = 5 from rfl] at hx431_2); (try rw [show ((1 : Int)).toNat = 1 from rfl] at hx431_3); (try rw [show 1 * 5 = 5 from rfl] at hx431_3); (try rw [show ((1 : Int)).toNat = 1 from rfl] at hx431_4); (try rw [show 1 * 5 = 5 from rfl] at hx431_4); have hn431_0 : ad431.block ≠ gb430 := Kd.own_blk (Kd.R_ne HO427.out BK430.out (by decide)); have hn431_1 : ad431.block ≠ gb430 := Kd.own_blk (Kd.R_ne HO427.out BK430.out (by decide)); replace hx431_0 := (cell_far (p := ⟨gb430, 0, none⟩) x64_15 (.int .i64 t428)).trans hx431_0; replace hx431_1 := (cell_far (p := ⟨gb430, 0, none⟩) x64_15 (.int .i64 t428)).trans hx431_1; replace hx431_2 := (cell_far (p := ⟨gb430, 0, none⟩) x64_15 (.int .i64 t428)).trans hx431_2; replace hx431_3 := (cell_far (p := ⟨gb430, 0, none⟩) x64_15 (.int .i64 t428)).trans hx431_3; replace hx431_4 := (cell_far (p := ⟨gb430, 0, none⟩) x64_15 (.int .i64 t428)).trans hx431_4; replace hx431_0 := (cell_far (p := ⟨gb430, 1, none⟩) x64_16 (.int .i64 t429)).trans hx431_0; replace hx431_1 := (cell_far (p := ⟨gb430, 1, none⟩) x64_16 (.int .i64 t429)).trans hx431_1; replace hx431_2 := (cell_far (p := ⟨gb430, 1, none⟩) x64_16 (.int .i64 t429)).trans hx431_2; replace hx431_3 := (cell_far (p := ⟨gb430, 1, none⟩) x64_16 (.int .i64 t429)).trans hx431_3; replace hx431_4 := (cell_far (p := ⟨gb430, 1, none⟩) x64_16 (.int .i64 t429)).trans hx431_4; clear hn431_0; clear hn431_1; replace p431 := eq_true p431; replace q431 := eq_true q431; have p432 : 0 ≤ (4 : Int) := (by omega); have q432 : 4 < (t425.length : Int) := of_decide_eq_true x64_28; obtain ⟨ad432, e432, hx432_0, hx432_1, hx432_2, hx432_3, hx432_4⟩ := at_T30 (Kd.R_reads' HO427.out).2.2 4 p432 q432; obtain rfl : ad431 = ad432 := (by injection e432); (try simp only [show (4 : Int).toNat = 4 from rfl, Nat.reduceMul, Nat.reduceEqDiff, Go.Addr.add, ↓reduceIte] at hx432_0); (try simp only [show (4 : Int).toNat = 4 from rfl, Nat.reduceMul, Nat.reduceEqDiff, Go.Addr.add, ↓reduceIte] at hx432_1); (try simp only [show (4 : Int).toNat = 4 from rfl, Nat.reduceMul, Nat.reduceEqDiff, Go.Addr.add, ↓reduceIte] at hx432_2); (try simp only [show (4 : Int).toNat = 4 from rfl, Nat.reduceMul, Nat.reduceEqDiff, Go.Addr.add, ↓reduceIte] at hx432_3); (try simp only [show (4 : Int).toNat = 4 from rfl, Nat.reduceMul, Nat.reduceEqDiff, Go.Addr.add, ↓reduceIte] at hx432_4); have qi432 : (4 < t425.length) = True := eq_true (by omega); (try rw [show ((4 : Int)).toNat = 4 from rfl] at hx432_0); (try rw [show 4 * 5 = 20 from rfl] at hx432_0); (try rw [show ((4 : Int)).toNat = 4 from rfl] at hx432_1); (try rw [show 4 * 5 = 20 from rfl] at hx432_1); (try rw [show ((4 : Int)).toNat = 4 from rfl] at hx432_2); (try rw [show 4 * 5 = 20 from rfl] at hx432_2); (try rw [show ((4 : Int)).toNat = 4 from rfl] at hx432_3); (try rw [show 4 * 5 = 20 from rfl] at hx432_3); (try rw [show ((4 : Int)).toNat = 4 from rfl] at hx432_4); (try rw [show 4 * 5 = 20 from rfl] at hx432_4); have hn432_0 : ad431.block ≠ gb430 := Kd.own_blk (Kd.R_ne HO427.out BK430.out (by decide)); have hn432_1 : ad431.block ≠ gb430 := Kd.own_blk (Kd.R_ne HO427.out BK430.out (by decide)); replace hx432_0 := (cell_far (p := ⟨gb430, 0, none⟩) x64_17 (.int .i64 t428)).trans hx432_0; replace hx432_1 := (cell_far (p := ⟨gb430, 0, none⟩) x64_17 (.int .i64 t428)).trans hx432_1; replace hx432_2 := (cell_far (p := ⟨gb430, 0, none⟩) x64_17 (.int .i64 t428)).trans hx432_2; replace hx432_3 := (cell_far (p := ⟨gb430, 0, none⟩) x64_17 (.int .i64 t428)).trans hx432_3; replace hx432_4 := (cell_far (p := ⟨gb430, 0, none⟩) x64_17 (.int .i64 t428)).trans hx432_4; replace hx432_0 := (cell_far (p := ⟨gb430, 1, none⟩) x64_18 (.int .i64 t429)).trans hx432_0; replace hx432_1 := (cell_far (p := ⟨gb430, 1, none⟩) x64_18 (.int .i64 t429)).trans hx432_1; replace hx432_2 := (cell_far (p := ⟨gb430, 1, none⟩) x64_18 (.int .i64 t429)).trans hx432_2; replace hx432_3 := (cell_far (p := ⟨gb430, 1, none⟩) x64_18 (.int .i64 t429)).trans hx432_3; replace hx432_4 := (cell_far (p := ⟨gb430, 1, none⟩) x64_18 (.int .i64 t429)).trans hx432_4; clear hn432_0; clear hn432_1; replace p432 := eq_true p432; replace q432 := eq_true q432; have p433 : 0 ≤ (6 : Int) := (by omega); have q433 : 6 < (t425.length : Int) := of_decide_eq_true x64_28; obtain ⟨ad433, e433, hx433_0, hx433_1, hx433_2, hx433_3, hx433_4⟩ := at_T30 (Kd.R_reads' HO427.out).2.2 6 p433 q433; obtain rfl : ad431 = ad433 := (by injection e433); (try simp only [show (6 : Int).toNat = 6 from rfl, Nat.reduceMul, Nat.reduceEqDiff, Go.Addr.add, ↓reduceIte] at hx433_0); (try simp only [show (6 : Int).toNat = 6 from rfl, Nat.reduceMul, Nat.reduceEqDiff, Go.Addr.add, ↓reduceIte] at hx433_1); (try simp only [show (6 : Int).toNat = 6 from rfl, Nat.reduceMul, Nat.reduceEqDiff, Go.Addr.add, ↓reduceIte] at hx433_2); (try simp only [show (6 : Int).toNat = 6 from rfl, Nat.reduceMul, Nat.reduceEqDiff, Go.Addr.add, ↓reduceIte] at hx433_3); (try simp only [show (6 : Int).toNat = 6 from rfl, Nat.reduceMul, Nat.reduceEqDiff, Go.Addr.add, ↓reduceIte] at hx433_4); have qi433 : (6 < t425.length) = True := eq_true (by omega); (try rw [show ((6 : Int)).toNat = 6 from rfl] at hx433_0); (try rw [show 6 * 5 = 30 from rfl] at hx433_0); (try rw [show ((6 : Int)).toNat = 6 from rfl] at hx433_1); (try rw [show 6 * 5 = 30 from rfl] at hx433_1); (try rw [show ((6 : Int)).toNat = 6 from rfl] at hx433_2); (try rw [show 6 * 5 = 30 from rfl] at hx433_2); (try rw [show ((6 : Int)).toNat = 6 from rfl] at hx433_3); (try rw [show 6 * 5 = 30 from rfl] at hx433_3); (try rw [show ((6 : Int)).toNat = 6 from rfl] at hx433_4); (try rw [show 6 * 5 = 30 from rfl] at hx433_4); have hn433_0 : ad431.block ≠ gb430 := Kd.own_blk (Kd.R_ne HO427.out BK430.out (by decide)); have hn433_1 : ad431.block ≠ gb430 := Kd.own_blk (Kd.R_ne HO427.out BK430.out (by decide)); replace hx433_0 := (cell_far (p := ⟨gb430, 0, none⟩) x64_19 (.int .i64 t428)).trans hx433_0; replace hx433_1 := (cell_far (p := ⟨gb430, 0, none⟩) x64_19 (.int .i64 t428)).trans hx433_1; replace hx433_2 := (cell_far (p := ⟨gb430, 0, none⟩) x64_19 (.int .i64 t428)).trans hx433_2; replace hx433_3 := (cell_far (p := ⟨gb430, 0, none⟩) x64_19 (.int .i64 t428)).trans hx433_3; replace hx433_4 := (cell_far (p := ⟨gb430, 0, none⟩) x64_19 (.int .i64 t428)).trans hx433_4; replace hx433_0 := (cell_far (p := ⟨gb430, 1, none⟩) x64_20 (.int .i64 t429)).trans hx433_0; replace hx433_1 := (cell_far (p := ⟨gb430, 1, none⟩) x64_20 (.int .i64 t429)).trans hx433_1; replace hx433_2 := (cell_far (p := ⟨gb430, 1, none⟩) x64_20 (.int .i64 t429)).trans hx433_2; replace hx433_3 := (cell_far (p := ⟨gb430, 1, none⟩) x64_20 (.int .i64 t429)).trans hx433_3; replace hx433_4 := (cell_far (p := ⟨gb430, 1, none⟩) x64_20 (.int .i64 t429)).trans hx433_4; clear hn433_0; clear hn433_1; replace p433 := eq_true p433; replace q433 := eq_true q433))
        go_ret
        exact ⟨x64_27, x64_9⟩
      ·rw [if_neg c7] at H
       exact absurd H (by simp)
     ·rw [if_neg c6] at H
      have c6b0 : (((rd_T30 t425 4).f0) == 3 && (((rd_T30 t425 4).f1) == 7 && ((((rd_T30 t425 4).f2).toList) == ([46, 46] : List UInt8) && (((rd_T30 t425 4).f3) == 0 && (((rd_T30 t425 4).f4) == 0))))) = false := by simpa using c6
      (try (have c6b1 : decide (((rd_T30 t425 4).f0) = 3 && (((rd_T30 t425 4).f1) == 7 && ((((rd_T30 t425 4).f2).toList) == ([46, 46] : List UInt8) && (((rd_T30 t425 4).f3) == 0 && (((rd_T30 t425 4).f4) == 0))))) = false := by simpa using c6))
      (try (have c6b2 : (((rd_T30 t425 4).f0) == 3 && (((rd_T30 t425 4).f1) == 7 && ((((rd_T30 t425 4).f2).toList) == ([46, 46] : List UInt8) && (((rd_T30 t425 4).f3) == 0 && (((rd_T30 t425 4).f4) == 0))))) = false := by simpa using c6))
      (try (have c6b3 : ¬ (((rd_T30 t425 4).f0) = 3 && (((rd_T30 t425 4).f1) == 7 && ((((rd_T30 t425 4).f2).toList) == ([46, 46] : List UInt8) && (((rd_T30 t425 4).f3) == 0 && (((rd_T30 t425 4).f4) == 0))))) := by simpa using c6))
      clear c6
      obtain rfl := Option.some.inj H
      go_enter Tryd.func12, Tryd.ntmps12
      go_wp2_with (first | ((with_reducible refine gate_callee (f := 9) rfl ?_); refine goesL_ (some 4) rfl rfl Tryd.func9 (by kernel_rfl) rfl #[.string (⟨#[108, 101, 116, 32, 120, 61, 49, 46, 46, 50, 32, 35, 32, 121]⟩ : ByteArray)] rfl x64_11 ?_; (with_reducible refine (lex_All.calls (hG := x64_4) (⟨#[108, 101, 116, 32, 120, 61, 49, 46, 46, 50, 32, 35, 32, 121]⟩ : ByteArray) t425 t428 t429 _ A1.out).mono ?_); rintro e w22 ⟨v426, rfl, ho0, hb⟩; refine ⟨_, rfl, ?_⟩; have n0_ := Aside0.mk (Kd.R_lower ho0 (below_size x64_12)); have n1_ := Aside0.mk (below_step x64_12 hb); clear HB; have HO427 := n0_; have HB := n1_; clear n0_ n1_) | ((with_reducible refine gate_dst (N := 2) rfl ?_); refine box_event ?hg (N := 2) ?hd (cs := #[.int .i64 0, .int .i64 0]) (t := 25) ?hr ?_; (case hd => rfl); (case hg => rfl); (case hr => first | (go_simp; done) | (go_simp; rfl)); intro gb430 hg w23 hbox hb; have n0_ := Aside0.mk (Kd.R_below x64_23 hb); have n1_ := Aside0.mk (below_step x64_12 hb); have n2_ := Aside0.mk (hbox); have n3_ := Aside0.mk ((by rw [hg]; exact (below_size x64_12) : w.heap.size ≤ gb430)); have n4_ := Aside0.mk ((by rw [hg]; exact (below_size x64_12) : w.heap.size ≤ gb430)); clear HO427; clear HB; have HO427 := n0_; have HB := n1_; have BK430 := n2_; have GW430 := n3_; have GE430 := n4_; clear n0_ n1_ n2_ n3_ n4_; clear hb hbox hg; have hcz24_0 : w23.cell? ⟨gb430, 0, none⟩ = some (.int .i64 0) := (blk_cell BK430.out 0).trans rfl; have hcz24_1 : w23.cell? ⟨gb430, 1, none⟩ = some (.int .i64 0) := (blk_cell BK430.out 1).trans rfl; have hfz24_0 := blk_frozen BK430.out 0; have hfz24_1 := blk_frozen BK430.out 1; obtain ⟨Ao25, co25, eo25⟩ := Kd.R_slice HO427.out; subst eo25; have p431 : 0 ≤ (1 : Int) := (by omega); have q431 : 1 < (t425.length : Int) := of_decide_eq_true x64_28; obtain ⟨ad431, e431, hx431_0, hx431_1, hx431_2, hx431_3, hx431_4⟩ := at_T30 (Kd.R_reads' HO427.out).2.2 1 p431 q431; cases e431; (try simp only [show (1 : Int).toNat = 1 from rfl, Nat.reduceMul, Nat.reduceEqDiff, Go.Addr.add, ↓reduceIte] at hx431_0); (try simp only [show (1 : Int).toNat = 1 from rfl, Nat.reduceMul, Nat.reduceEqDiff, Go.Addr.add, ↓reduceIte] at hx431_1); (try simp only [show (1 : Int).toNat = 1 from rfl, Nat.reduceMul, Nat.reduceEqDiff, Go.Addr.add, ↓reduceIte] at hx431_2); (try simp only [show (1 : Int).toNat = 1 from rfl, Nat.reduceMul, Nat.reduceEqDiff, Go.Addr.add, ↓reduceIte] at hx431_3); (try simp only [show (1 : Int).toNat = 1 from rfl, Nat.reduceMul, Nat.reduceEqDiff, Go.Addr.add, ↓reduceIte] at hx431_4); have qi431 : (1 < t425.length) = True := eq_true (by omega); (try rw [show ((1 : Int)).toNat = 1 from rfl] at hx431_0); (try rw [show 1 * 5 = 5 from rfl] at hx431_0); (try rw [show ((1 : Int)).toNat = 1 from rfl] at hx431_1); (try rw [show 1 * 5 = 5 from rfl] at hx431_1); (try rw [show ((1 : Int)).toNat = 1 from rfl] at hx431_2); (try rw [show 1 * 5 = 5 from rfl] at hx431_2); (try rw [show ((1 : Int)).toNat = 1 from rfl] at hx431_3); (try rw [show 1 * 5 = 5 from rfl] at hx431_3); (try rw [show ((1 : Int)).toNat = 1 from rfl] at hx431_4); (try rw [show 1 * 5 = 5 from rfl] at hx431_4); have hn431_0 : ad431.block ≠ gb430 := Kd.own_blk (Kd.R_ne HO427.out BK430.out (by decide)); have hn431_1 : ad431.block ≠ gb430 := Kd.own_blk (Kd.R_ne HO427.out BK430.out (by decide)); replace hx431_0 := (cell_far (p := ⟨gb430, 0, none⟩) x64_15 (.int .i64 t428)).trans hx431_0; replace hx431_1 := (cell_far (p := ⟨gb430, 0, none⟩) x64_15 (.int .i64 t428)).trans hx431_1; replace hx431_2 := (cell_far (p := ⟨gb430, 0, none⟩) x64_15 (.int .i64 t428)).trans hx431_2; replace hx431_3 := (cell_far (p := ⟨gb430, 0, none⟩) x64_15 (.int .i64 t428)).trans hx431_3; replace hx431_4 := (cell_far (p := ⟨gb430, 0, none⟩) x64_15 (.int .i64 t428)).trans hx431_4; replace hx431_0 := (cell_far (p := ⟨gb430, 1, none⟩) x64_16 (.int .i64 t429)).trans hx431_0; replace hx431_1 := (cell_far (p := ⟨gb430, 1, none⟩) x64_16 (.int .i64 t429)).trans hx431_1; replace hx431_2 := (cell_far (p := ⟨gb430, 1, none⟩) x64_16 (.int .i64 t429)).trans hx431_2; replace hx431_3 := (cell_far (p := ⟨gb430, 1, none⟩) x64_16 (.int .i64 t429)).trans hx431_3; replace hx431_4 := (cell_far (p := ⟨gb430, 1, none⟩) x64_16 (.int .i64 t429)).trans hx431_4; clear hn431_0; clear hn431_1; replace p431 := eq_true p431; replace q431 := eq_true q431; have p432 : 0 ≤ (4 : Int) := (by omega); have q432 : 4 < (t425.length : Int) := of_decide_eq_true x64_28; obtain ⟨ad432, e432, hx432_0, hx432_1, hx432_2, hx432_3, hx432_4⟩ := at_T30 (Kd.R_reads' HO427.out).2.2 4 p432 q432; obtain rfl : ad431 = ad432 := (by injection e432); (try simp only [show (4 : Int).toNat = 4 from rfl, Nat.reduceMul, Nat.reduceEqDiff, Go.Addr.add, ↓reduceIte] at hx432_0); (try simp only [show (4 : Int).toNat = 4 from rfl, Nat.reduceMul, Nat.reduceEqDiff, Go.Addr.add, ↓reduceIte] at hx432_1); (try simp only [show (4 : Int).toNat = 4 from rfl, Nat.reduceMul, Nat.reduceEqDiff, Go.Addr.add, ↓reduceIte] at hx432_2); (try simp only [show (4 : Int).toNat = 4 from rfl, Nat.reduceMul, Nat.reduceEqDiff, Go.Addr.add, ↓reduceIte] at hx432_3); (try simp only [show (4 : Int).toNat = 4 from rfl, Nat.reduceMul, Nat.reduceEqDiff, Go.Addr.add, ↓reduceIte] at hx432_4); have qi432 : (4 < t425.length) = True := eq_true (by omega); (try rw [show ((4 : Int)).toNat = 4 from rfl] at hx432_0); (try rw [show 4 * 5 = 20 from rfl] at hx432_0); (try rw [show ((4 : Int)).toNat = 4 from rfl] at hx432_1); (try rw [show 4 * 5 = 20 from rfl] at hx432_1); (try rw [show ((4 : Int)).toNat = 4 from rfl] at hx432_2); (try rw [show 4 * 5 = 20 from rfl] at hx432_2); (try rw [show ((4 : Int)).toNat = 4 from rfl] at hx432_3); (try rw [show 4 * 5 = 20 from rfl] at hx432_3); (try rw [show ((4 : Int)).toNat = 4 from rfl] at hx432_4); (try rw [show 4 * 5 = 20 from rfl] at hx432_4); have hn432_0 : ad431.block ≠ gb430 := Kd.own_blk (Kd.R_ne HO427.out BK430.out (by decide)); have hn432_1 : ad431.block ≠ gb430 := Kd.own_blk (Kd.R_ne HO427.out BK430.out (by decide)); replace hx432_0 := (cell_far (p := ⟨gb430, 0, none⟩) x64_17 (.int .i64 t428)).trans hx432_0; replace hx432_1 := (cell_far (p := ⟨gb430, 0, none⟩) x64_17 (.int .i64 t428)).trans hx432_1; replace hx432_2 := (cell_far (p := ⟨gb430, 0, none⟩) x64_17 (.int .i64 t428)).trans hx432_2; replace hx432_3 := (cell_far (p := ⟨gb430, 0, none⟩) x64_17 (.int .i64 t428)).trans hx432_3; replace hx432_4 := (cell_far (p := ⟨gb430, 0, none⟩) x64_17 (.int .i64 t428)).trans hx432_4; replace hx432_0 := (cell_far (p := ⟨gb430, 1, none⟩) x64_18 (.int .i64 t429)).trans hx432_0; replace hx432_1 := (cell_far (p := ⟨gb430, 1, none⟩) x64_18 (.int .i64 t429)).trans hx432_1; replace hx432_2 := (cell_far (p := ⟨gb430, 1, none⟩) x64_18 (.int .i64 t429)).trans hx432_2; replace hx432_3 := (cell_far (p := ⟨gb430, 1, none⟩) x64_18 (.int .i64 t429)).trans hx432_3; replace hx432_4 := (cell_far (p := ⟨gb430, 1, none⟩) x64_18 (.int .i64 t429)).trans hx432_4; clear hn432_0; clear hn432_1; replace p432 := eq_true p432; replace q432 := eq_true q432))
      go_ret
      exact ⟨x64_27, x64_9⟩
    ·rw [if_neg c5] at H
     exact absurd H (by simp)
   ·rw [if_neg c4] at H
    have c4b0 : (((rd_T30 t425 1).f0) == 1 && (((rd_T30 t425 1).f1) == 4 && ((((rd_T30 t425 1).f2).toList) == ([120] : List UInt8) && (((rd_T30 t425 1).f3) == 0 && (((rd_T30 t425 1).f4) == 0))))) = false := by simpa using c4
    (try (have c4b1 : decide (((rd_T30 t425 1).f0) = 1 && (((rd_T30 t425 1).f1) == 4 && ((((rd_T30 t425 1).f2).toList) == ([120] : List UInt8) && (((rd_T30 t425 1).f3) == 0 && (((rd_T30 t425 1).f4) == 0))))) = false := by simpa using c4))
    (try (have c4b2 : (((rd_T30 t425 1).f0) == 1 && (((rd_T30 t425 1).f1) == 4 && ((((rd_T30 t425 1).f2).toList) == ([120] : List UInt8) && (((rd_T30 t425 1).f3) == 0 && (((rd_T30 t425 1).f4) == 0))))) = false := by simpa using c4))
    (try (have c4b3 : ¬ (((rd_T30 t425 1).f0) = 1 && (((rd_T30 t425 1).f1) == 4 && ((((rd_T30 t425 1).f2).toList) == ([120] : List UInt8) && (((rd_T30 t425 1).f3) == 0 && (((rd_T30 t425 1).f4) == 0))))) := by simpa using c4))
    clear c4
    obtain rfl := Option.some.inj H
    go_enter Tryd.func12, Tryd.ntmps12
    go_wp2_with (first | ((with_reducible refine gate_callee (f := 9) rfl ?_); refine goesL_ (some 4) rfl rfl Tryd.func9 (by kernel_rfl) rfl #[.string (⟨#[108, 101, 116, 32, 120, 61, 49, 46, 46, 50, 32, 35, 32, 121]⟩ : ByteArray)] rfl x64_11 ?_; (with_reducible refine (lex_All.calls (hG := x64_4) (⟨#[108, 101, 116, 32, 120, 61, 49, 46, 46, 50, 32, 35, 32, 121]⟩ : ByteArray) t425 t428 t429 _ A1.out).mono ?_); rintro e w26 ⟨v426, rfl, ho0, hb⟩; refine ⟨_, rfl, ?_⟩; have n0_ := Aside0.mk (Kd.R_lower ho0 (below_size x64_12)); have n1_ := Aside0.mk (below_step x64_12 hb); clear HB; have HO427 := n0_; have HB := n1_; clear n0_ n1_) | ((with_reducible refine gate_dst (N := 2) rfl ?_); refine box_event ?hg (N := 2) ?hd (cs := #[.int .i64 0, .int .i64 0]) (t := 25) ?hr ?_; (case hd => rfl); (case hg => rfl); (case hr => first | (go_simp; done) | (go_simp; rfl)); intro gb430 hg w27 hbox hb; have n0_ := Aside0.mk (Kd.R_below x64_23 hb); have n1_ := Aside0.mk (below_step x64_12 hb); have n2_ := Aside0.mk (hbox); have n3_ := Aside0.mk ((by rw [hg]; exact (below_size x64_12) : w.heap.size ≤ gb430)); have n4_ := Aside0.mk ((by rw [hg]; exact (below_size x64_12) : w.heap.size ≤ gb430)); clear HO427; clear HB; have HO427 := n0_; have HB := n1_; have BK430 := n2_; have GW430 := n3_; have GE430 := n4_; clear n0_ n1_ n2_ n3_ n4_; clear hb hbox hg; have hcz28_0 : w27.cell? ⟨gb430, 0, none⟩ = some (.int .i64 0) := (blk_cell BK430.out 0).trans rfl; have hcz28_1 : w27.cell? ⟨gb430, 1, none⟩ = some (.int .i64 0) := (blk_cell BK430.out 1).trans rfl; have hfz28_0 := blk_frozen BK430.out 0; have hfz28_1 := blk_frozen BK430.out 1; obtain ⟨Ao29, co29, eo29⟩ := Kd.R_slice HO427.out; subst eo29; have p431 : 0 ≤ (1 : Int) := (by omega); have q431 : 1 < (t425.length : Int) := of_decide_eq_true x64_28; obtain ⟨ad431, e431, hx431_0, hx431_1, hx431_2, hx431_3, hx431_4⟩ := at_T30 (Kd.R_reads' HO427.out).2.2 1 p431 q431; cases e431; (try simp only [show (1 : Int).toNat = 1 from rfl, Nat.reduceMul, Nat.reduceEqDiff, Go.Addr.add, ↓reduceIte] at hx431_0); (try simp only [show (1 : Int).toNat = 1 from rfl, Nat.reduceMul, Nat.reduceEqDiff, Go.Addr.add, ↓reduceIte] at hx431_1); (try simp only [show (1 : Int).toNat = 1 from rfl, Nat.reduceMul, Nat.reduceEqDiff, Go.Addr.add, ↓reduceIte] at hx431_2); (try simp only [show (1 : Int).toNat = 1 from rfl, Nat.reduceMul, Nat.reduceEqDiff, Go.Addr.add, ↓reduceIte] at hx431_3); (try simp only [show (1 : Int).toNat = 1 from rfl, Nat.reduceMul, Nat.reduceEqDiff, Go.Addr.add, ↓reduceIte] at hx431_4); have qi431 : (1 < t425.length) = True := eq_true (by omega); (try rw [show ((1 : Int)).toNat = 1 from rfl] at hx431_0); (try rw [show 1 * 5 = 5 from rfl] at hx431_0); (try rw [show ((1 : Int)).toNat = 1 from rfl] at hx431_1); (try rw [show 1 * 5 = 5 from rfl] at hx431_1); (try rw [show ((1 : Int)).toNat = 1 from rfl] at hx431_2); (try rw [show 1 * 5 = 5 from rfl] at hx431_2); (try rw [show ((1 : Int)).toNat = 1 from rfl] at hx431_3); (try rw [show 1 * 5 = 5 from rfl] at hx431_3); (try rw [show ((1 : Int)).toNat = 1 from rfl] at hx431_4); (try rw [show 1 * 5 = 5 from rfl] at hx431_4); have hn431_0 : ad431.block ≠ gb430 := Kd.own_blk (Kd.R_ne HO427.out BK430.out (by decide)); have hn431_1 : ad431.block ≠ gb430 := Kd.own_blk (Kd.R_ne HO427.out BK430.out (by decide)); replace hx431_0 := (cell_far (p := ⟨gb430, 0, none⟩) x64_15 (.int .i64 t428)).trans hx431_0; replace hx431_1 := (cell_far (p := ⟨gb430, 0, none⟩) x64_15 (.int .i64 t428)).trans hx431_1; replace hx431_2 := (cell_far (p := ⟨gb430, 0, none⟩) x64_15 (.int .i64 t428)).trans hx431_2; replace hx431_3 := (cell_far (p := ⟨gb430, 0, none⟩) x64_15 (.int .i64 t428)).trans hx431_3; replace hx431_4 := (cell_far (p := ⟨gb430, 0, none⟩) x64_15 (.int .i64 t428)).trans hx431_4; replace hx431_0 := (cell_far (p := ⟨gb430, 1, none⟩) x64_16 (.int .i64 t429)).trans hx431_0; replace hx431_1 := (cell_far (p := ⟨gb430, 1, none⟩) x64_16 (.int .i64 t429)).trans hx431_1; replace hx431_2 := (cell_far (p := ⟨gb430, 1, none⟩) x64_16 (.int .i64 t429)).trans hx431_2; replace hx431_3 := (cell_far (p := ⟨gb430, 1, none⟩) x64_16 (.int .i64 t429)).trans hx431_3; replace hx431_4 := (cell_far (p := ⟨gb430, 1, none⟩) x64_16 (.int .i64 t429)).trans hx431_4; clear hn431_0; clear hn431_1; replace p431 := eq_true p431; replace q431 := eq_true q431))
    go_ret
    exact ⟨x64_27, x64_9⟩
  ·rw [if_neg c3] at H
   exact absurd H (by simp)
 ·rw [if_neg c2] at H
  have c2b0 : ((t425.length : Int) == 7) = false := beq_eq_false_iff_ne.mpr c2
  have c2b1 : ((t425.length : Int) != 7) = true := bne_iff_ne.mpr c2
  obtain rfl := Option.some.inj H
  go_enter Tryd.func12, Tryd.ntmps12
  go_wp2_with (first | ((with_reducible refine gate_callee (f := 9) rfl ?_); refine goesL_ (some 4) rfl rfl Tryd.func9 (by kernel_rfl) rfl #[.string (⟨#[108, 101, 116, 32, 120, 61, 49, 46, 46, 50, 32, 35, 32, 121]⟩ : ByteArray)] rfl x64_11 ?_; (with_reducible refine (lex_All.calls (hG := x64_4) (⟨#[108, 101, 116, 32, 120, 61, 49, 46, 46, 50, 32, 35, 32, 121]⟩ : ByteArray) t425 t428 t429 _ A1.out).mono ?_); rintro e w30 ⟨v426, rfl, ho0, hb⟩; refine ⟨_, rfl, ?_⟩; have n0_ := Aside0.mk (Kd.R_lower ho0 (below_size x64_12)); have n1_ := Aside0.mk (below_step x64_12 hb); clear HB; have HO427 := n0_; have HB := n1_; clear n0_ n1_) | ((with_reducible refine gate_dst (N := 2) rfl ?_); refine box_event ?hg (N := 2) ?hd (cs := #[.int .i64 0, .int .i64 0]) (t := 25) ?hr ?_; (case hd => rfl); (case hg => rfl); (case hr => first | (go_simp; done) | (go_simp; rfl)); intro gb430 hg w31 hbox hb; have n0_ := Aside0.mk (Kd.R_below x64_23 hb); have n1_ := Aside0.mk (below_step x64_12 hb); have n2_ := Aside0.mk (hbox); have n3_ := Aside0.mk ((by rw [hg]; exact (below_size x64_12) : w.heap.size ≤ gb430)); have n4_ := Aside0.mk ((by rw [hg]; exact (below_size x64_12) : w.heap.size ≤ gb430)); clear HO427; clear HB; have HO427 := n0_; have HB := n1_; have BK430 := n2_; have GW430 := n3_; have GE430 := n4_; clear n0_ n1_ n2_ n3_ n4_; clear hb hbox hg; have hcz32_0 : w31.cell? ⟨gb430, 0, none⟩ = some (.int .i64 0) := (blk_cell BK430.out 0).trans rfl; have hcz32_1 : w31.cell? ⟨gb430, 1, none⟩ = some (.int .i64 0) := (blk_cell BK430.out 1).trans rfl; have hfz32_0 := blk_frozen BK430.out 0; have hfz32_1 := blk_frozen BK430.out 1; obtain ⟨Ao33, co33, eo33⟩ := Kd.R_slice HO427.out; subst eo33))
  go_ret
  exact ⟨x64_27, x64_9⟩
end Go.Proofs.YtjolkombhdibcaaDoor.Print
end
section
namespace Go.Proofs.YtjolkombhdibcaaDoor.Print
open Go.RowKit Go.Proofs.YtjolkombhdibcaaDoor.Given Go.Proofs.YtjolkombhdibcaaDoorW.PrintWords Go.Proofs.YtjolkombhdibcaaDoorW.PrintLast Go.Proofs.YtjolkombhdibcaaDoorW.PrintMore
attribute [local go_sem] max2_int min2_int max_two min_two max_three min_three max_four min_four
set_option linter.unusedVariables false
set_option linter.unusedSimpArgs false
attribute [local go_sem high] eqA25 eqA30
theorem x65_22 {p : Prop} (h : p := by first | omega | exact Nat.le_refl _) : p := h
theorem x65_21 {p : Prop} (h : p := by first | rfl | (simp; done) | (simp [*]; done)) : p := h
theorem x65_20 {p : Prop} (h : p := by first | (with_reducible assumption) | assumption) : p := h
theorem x65_19 {p : Prop} (h : p := by intro q hq; rcases List.mem_cons.1 hq with rfl | hq <;> first | decide | cases hq) : p := h
theorem x65_18 {p : Prop} (h : p := by (with_reducible repeat first | apply blk_drewN | apply blk_drew | apply blk_alloc); exact BK487.out) : p := h
theorem x65_17 {p : Prop} (h : p := by (with_reducible repeat first | apply blk_drewN | apply blk_drew | apply blk_alloc); exact BK480.out) : p := h
theorem x65_16 {p : Prop} (h : p := by (with_reducible repeat (first | apply Kd.R_alloc | apply Kd.R_drewN | apply Kd.R_drew)); exact HO_9.out) : p := h
theorem x65_15 {p : Prop} (h : p := by (with_reducible repeat (first | apply Kd.R_alloc | apply Kd.R_drewN | apply Kd.R_drew)); exact HO_7.out) : p := h
theorem x65_14 {p : Prop} (h : p := by (with_reducible repeat (first | apply Kd.R_alloc | apply Kd.R_drewN | apply Kd.R_drew)); exact HO_5.out) : p := h
theorem x65_13 {p : Prop} (h : p := by (with_reducible repeat (first | apply Kd.R_alloc | apply Kd.R_drewN | apply Kd.R_drew)); exact HO484.out) : p := h
theorem x65_12 {p : Prop} (h : p := by (with_reducible repeat (first | apply Kd.R_alloc | apply Kd.R_drewN | apply Kd.R_drew)); exact HO477.out) : p := h
theorem x65_11 {p : Prop} (h : p := by repeat (first | (with_reducible first | exact HB.out | apply below_alloc | apply pw_below_drewN | apply below_drew1) | exact HB.out)) : p := h
theorem x65_10 {p : Prop} (h : p := by repeat (first | (with_reducible first | exact HB.out | apply below_alloc | apply pw_below_drewN | apply below_drew1 | refine below_set ?_ GE480.out) | exact HB.out)) : p := h
theorem x65_9 {p : Prop} (h : p := by first | rfl | (simp [errW_none, errW_some] <;> rfl) | (simp only [← hji22]; first | rfl | (simp [errW_none, errW_some] <;> rfl)) | (simp [*, errW_none, errW_some] <;> rfl)) : p := h
theorem x65_8 {p : Prop} (h : p := by repeat (first | (with_reducible first | exact HB.out | apply below_alloc | apply pw_below_drewN | apply below_drew1 | refine below_set ?_ GE480.out | refine below_set ?_ GE487.out) | exact HB.out)) : p := h
theorem x65_7 {p : Prop} (h : p := by first | exact Glob.at_ HG0.out x65_8 | exact Glob.at_ HG0.out (Below.refl _ _)) : p := h
theorem x65_6 {p : Prop} (h : p := by (with_reducible repeat (first | apply Kd.R_alloc | apply Kd.R_drewN | apply Kd.R_drew)); exact (Kd.R_mono (Kd.R_far (p := ⟨gb480, 1, none⟩) (Kd.R_far (p := ⟨gb480, 0, none⟩) (Kd.R_types HO_5.out BK480.out (by decide)) (fun _ hk => hk.2) (.int .i64 t478)) (fun _ hk => hk.2) (.int .i64 t479)) (fun _ h_ => h_.1))) : p := h
theorem x65_5 {p : Prop} (h : p := by (with_reducible repeat (first | apply Kd.R_alloc | apply Kd.R_drewN | apply Kd.R_drew)); exact Kd.R_mono (Kd.R_far (p := ⟨gb487, 1, none⟩) (Kd.R_far (p := ⟨gb487, 0, none⟩) (Kd.R_types HO484.out BK487.out (by decide)) (fun _ hk => hk.2) (.int .i64 t485)) (fun _ hk => hk.2) (.int .i64 t486)) (fun _ hk => hk.1.2)) : p := h
theorem x65_4 {p : Prop} (h : p := by (with_reducible repeat (first | apply Kd.R_alloc | apply Kd.R_drewN | apply Kd.R_drew)); exact Kd.R_mono (Kd.R_far (p := ⟨gb487, 1, none⟩) (Kd.R_far (p := ⟨gb487, 0, none⟩) (Kd.R_types HO477.out BK487.out (by decide)) (fun _ hk => hk.2) (.int .i64 t485)) (fun _ hk => hk.2) (.int .i64 t486)) (fun _ hk => hk.1.2)) : p := h
theorem x65_3 {p : Prop} (h : p := by (with_reducible repeat (first | apply Kd.R_alloc | apply Kd.R_drewN | apply Kd.R_drew)); exact (Kd.R_mono (Kd.R_far (p := ⟨gb480, 1, none⟩) (Kd.R_far (p := ⟨gb480, 0, none⟩) (Kd.R_types HO477.out BK480.out (by decide)) (fun _ hk => hk.2) (.int .i64 t478)) (fun _ hk => hk.2) (.int .i64 t479)) (fun _ h_ => h_.1))) : p := h
theorem x65_2 {p : Prop} (h : p := by (with_reducible repeat first | apply blk_drewN | apply blk_drew | apply blk_alloc); refine blk_far ?_ NB480_487.out _; (with_reducible repeat first | apply blk_drewN | apply blk_drew | apply blk_alloc); refine blk_far ?_ NB480_487.out _; (with_reducible repeat first | apply blk_drewN | apply blk_drew | apply blk_alloc); exact BK480.out) : p := h
theorem x65_1 {p : Prop} (h : p := by (with_reducible repeat first | apply blk_drewN | apply blk_drew | apply blk_alloc); refine blk_put (cs := #[.int .i64 t485, .int .i64 0]) ?_ 1 _ rfl; (with_reducible repeat first | apply blk_drewN | apply blk_drew | apply blk_alloc); refine blk_put (cs := #[.int .i64 0, .int .i64 0]) ?_ 0 _ rfl; (with_reducible repeat first | apply blk_drewN | apply blk_drew | apply blk_alloc); exact BK487.out) : p := h
theorem x65_0 {p : Prop} (h : p := by (with_reducible repeat first | apply blk_drewN | apply blk_drew | apply blk_alloc); refine blk_put (cs := #[.int .i64 t478, .int .i64 0]) ?_ 1 _ rfl; (with_reducible repeat first | apply blk_drewN | apply blk_drew | apply blk_alloc); refine blk_put (cs := #[.int .i64 0, .int .i64 0]) ?_ 0 _ rfl; (with_reducible repeat first | apply blk_drewN | apply blk_drew | apply blk_alloc); exact BK480.out) : p := h
mutual
def casketlaw11_LexLong.j0 : Nat → Int → Int → Bool → Option (Bool)
 | 0, _, _, _ => none
 | k + 1, x0, x1, x41 => if x41 = true then (some true) else (if 0 ≤ x0 then (if (x0 : Int).toNat ≤ 281474976710656 then (casketlaw11_LexLong.l0 k x0 x1 (List.replicate (x0 : Int).toNat 0) 0) else (none)) else (none))
def casketlaw11_LexLong.l0 : Nat → Int → Int → List Int → Int → Option (Bool)
 | 0, _, _, _, _ => none
 | k + 1, x0, x1, x5, x6 => if x6 < x0 then (if 0 ≤ x6 then (if x6 < (x5.length : Int) then (casketlaw11_LexLong.l0 k x0 x1 (x5.set (x6 : Int).toNat 32) (wrap64 (x6 + 1))) else (none)) else (none)) else (if 0 ≤ (wrap64 (x0 - 1)) then (if (wrap64 (x0 - 1)) < (x5.length : Int) then ((some (x5.set ((wrap64 (x0 - 1)) : Int).toNat x1 : List Int)).bind fun y474 => ((lex_All.f (strOfNums y474)).bind fun bt475 => (if x0 > 65536 then (if (bt475.1.length : Int) = 0 then (if (bt475.2.1 == 2 && (bt475.2.2 == 0)) = true then ((casketlaw11_awake.f).bind fun t481 => (some t481)) else (some false)) else (some false)) else ((casketref11_All.f k (strOfNums y474)).bind fun bt482 => (if (bt475.1.length : Int) = (bt482.1.length : Int) then (casketlaw11_LexLong.j2 k bt475.1 bt482.1 (!(bt475.2.1 == bt482.2.1) || (!(bt475.2.2 == bt482.2.2)))) else (casketlaw11_LexLong.j2 k bt475.1 bt482.1 true)))))) else (none)) else (none))
def casketlaw11_LexLong.j2 : Nat → List (S30) → List (S30) → Bool → Option (Bool)
 | 0, _, _, _ => none
 | k + 1, x7, x9, x91 => if x91 = true then (some false) else (casketlaw11_LexLong.l1 k x7 x9 0)
def casketlaw11_LexLong.l1 : Nat → List (S30) → List (S30) → Int → Option (Bool)
 | 0, _, _, _ => none
 | k + 1, x7, x9, x11 => if x11 < (x7.length : Int) then (if 0 ≤ x11 then (if x11 < (x9.length : Int) then (if (!(((rd_T30 x7 x11).f0) == ((rd_T30 x9 x11).f0)) || (!(((rd_T30 x7 x11).f1) == ((rd_T30 x9 x11).f1)) || (!((((rd_T30 x7 x11).f2).toList) == (((rd_T30 x9 x11).f2).toList)) || (!(((rd_T30 x7 x11).f3) == ((rd_T30 x9 x11).f3)) || (!(((rd_T30 x7 x11).f4) == ((rd_T30 x9 x11).f4))))))) = true then (some false) else (casketlaw11_LexLong.l1 k x7 x9 (wrap64 (x11 + 1)))) else (none)) else (none)) else ((casketlaw11_awake.f).bind fun t490 => (some t490))
end
def casketlaw11_LexLong.f (k : Nat) (a0 : Int) (a1 : Int) : Option (Bool) := if a0 < 65000 then (casketlaw11_LexLong.j0 k a0 a1 true) else (if a0 > 66000 then (casketlaw11_LexLong.j0 k a0 a1 true) else (if a1 = 32 then (casketlaw11_LexLong.j0 k a0 a1 false) else (if a1 = 10 then (casketlaw11_LexLong.j0 k a0 a1 false) else (if a1 = 97 then (casketlaw11_LexLong.j0 k a0 a1 false) else (if a1 = 55 then (casketlaw11_LexLong.j0 k a0 a1 false) else (if a1 = 34 then (casketlaw11_LexLong.j0 k a0 a1 false) else (casketlaw11_LexLong.j0 k a0 a1 (a1 != 40))))))))
set_option maxHeartbeats 8000000 in
set_option maxRecDepth 100000 in
theorem casketlaw11_LexLong.calls (k : Nat) (a0 : Int) (a1 : Int) (r : Bool) (w : World) (hG : Glob w) (h : casketlaw11_LexLong.f k a0 a1 = some r) :
  Calls Tryd.prog 4 #[.int .i64 a0, .int .u8 a1] w fun e w' => e = .returned (.bool r) ∧ Below w.heap.size w w' := by
 have HG0 := Aside0.mk hG
 clear hG
 have hu25 := Tryd.underlying25
 have hu30 := Tryd.underlying30
 have HB := Aside0.mk (Below.refl w.heap.size w)
 have H : (if a0 < 65000 then (casketlaw11_LexLong.j0 k a0 a1 true) else (if a0 > 66000 then (casketlaw11_LexLong.j0 k a0 a1 true) else (if a1 = 32 then (casketlaw11_LexLong.j0 k a0 a1 false) else (if a1 = 10 then (casketlaw11_LexLong.j0 k a0 a1 false) else (if a1 = 97 then (casketlaw11_LexLong.j0 k a0 a1 false) else (if a1 = 55 then (casketlaw11_LexLong.j0 k a0 a1 false) else (if a1 = 34 then (casketlaw11_LexLong.j0 k a0 a1 false) else (casketlaw11_LexLong.j0 k a0 a1 (a1 != 40))))))))) = some r := h
 clear h
 have HC3 := Aside0.mk H
 clear H
 go_enter Tryd.func4, Tryd.ntmps4
 go_upto_region 1 with (fail)
 repeat (go_quiet (fail); go_upto_region 1 with (fail))
 go_cut [41] (fun v41 wc => ∃ (kq : Nat) (x41_2 : Bool), v41 = .bool x41_2 ∧ Aside0 (casketlaw11_LexLong.j0 kq a0 a1 x41_2 = some r) ∧ Aside0 (kq ≤ k) ∧ Aside0 (Below w.heap.size w wc))
 case first =>
  have H := HC3.out
  clear HC3
  by_cases c4 : a0 < 65000
  ·rw [if_pos c4] at H
   have c4b0 : decide (a0 < 65000) = true := decide_eq_true c4
   clear c4
   (first | rw [c4b0] | (simp only [i64_w, i32_w]; rw [c4b0]) | skip)
   have H' := Aside0.mk H
   clear H
   go_wp2
   repeat (go_quiet (fail); try go_wp2)
   go_meet
   case rel => exact ⟨_, (true), x65_21, H', ⟨x65_22⟩, ⟨x65_11⟩⟩
  ·rw [if_neg c4] at H
   have c4b0 : decide (a0 < 65000) = false := decide_eq_false c4
   clear c4
   (first | rw [c4b0] | (simp only [i64_w, i32_w]; rw [c4b0]) | skip)
   by_cases c5 : a0 > 66000
   ·rw [if_pos c5] at H
    have c5b0 : decide (66000 < a0) = true := decide_eq_true c5
    clear c5
    have H' := Aside0.mk H
    clear H
    go_wp2
    repeat (go_quiet (fail); try go_wp2)
    go_meet
    case rel => exact ⟨_, (true), x65_21, H', ⟨x65_22⟩, ⟨x65_11⟩⟩
   ·rw [if_neg c5] at H
    have c5b0 : decide (66000 < a0) = false := decide_eq_false c5
    clear c5
    by_cases c6 : a1 = 32
    ·rw [if_pos c6] at H
     have c6b0 : (a1 == 32) = true := beq_iff_eq.mpr c6
     have c6b1 : (a1 != 32) = false := bne_eq_false_iff_eq.mpr c6
     clear c6
     have H' := Aside0.mk H
     clear H
     go_wp2
     repeat (go_quiet (fail); try go_wp2)
     go_meet
     case rel => exact ⟨_, (false), x65_21, H', ⟨x65_22⟩, ⟨x65_11⟩⟩
    ·rw [if_neg c6] at H
     have c6b0 : (a1 == 32) = false := beq_eq_false_iff_ne.mpr c6
     have c6b1 : (a1 != 32) = true := bne_iff_ne.mpr c6
     by_cases c7 : a1 = 10
     ·rw [if_pos c7] at H
      have c7b0 : (a1 == 10) = true := beq_iff_eq.mpr c7
      have c7b1 : (a1 != 10) = false := bne_eq_false_iff_eq.mpr c7
      clear c7
      have H' := Aside0.mk H
      clear H
      go_wp2
      repeat (go_quiet (fail); try go_wp2)
      go_meet
      case rel => exact ⟨_, (false), x65_21, H', ⟨x65_22⟩, ⟨x65_11⟩⟩
     ·rw [if_neg c7] at H
      have c7b0 : (a1 == 10) = false := beq_eq_false_iff_ne.mpr c7
      have c7b1 : (a1 != 10) = true := bne_iff_ne.mpr c7
      by_cases c8 : a1 = 97
      ·rw [if_pos c8] at H
       have c8b0 : (a1 == 97) = true := beq_iff_eq.mpr c8
       have c8b1 : (a1 != 97) = false := bne_eq_false_iff_eq.mpr c8
       clear c8
       have H' := Aside0.mk H
       clear H
       go_wp2
       repeat (go_quiet (fail); try go_wp2)
       go_meet
       case rel => exact ⟨_, (false), x65_21, H', ⟨x65_22⟩, ⟨x65_11⟩⟩
      ·rw [if_neg c8] at H
       have c8b0 : (a1 == 97) = false := beq_eq_false_iff_ne.mpr c8
       have c8b1 : (a1 != 97) = true := bne_iff_ne.mpr c8
       by_cases c9 : a1 = 55
       ·rw [if_pos c9] at H
        have c9b0 : (a1 == 55) = true := beq_iff_eq.mpr c9
        have c9b1 : (a1 != 55) = false := bne_eq_false_iff_eq.mpr c9
        clear c9
        have H' := Aside0.mk H
        clear H
        go_wp2
        repeat (go_quiet (fail); try go_wp2)
        go_meet
        case rel => exact ⟨_, (false), x65_21, H', ⟨x65_22⟩, ⟨x65_11⟩⟩
       ·rw [if_neg c9] at H
        have c9b0 : (a1 == 55) = false := beq_eq_false_iff_ne.mpr c9
        have c9b1 : (a1 != 55) = true := bne_iff_ne.mpr c9
        by_cases c10 : a1 = 34
        ·rw [if_pos c10] at H
         have c10b0 : (a1 == 34) = true := beq_iff_eq.mpr c10
         have c10b1 : (a1 != 34) = false := bne_eq_false_iff_eq.mpr c10
         clear c10
         have H' := Aside0.mk H
         clear H
         go_wp2
         repeat (go_quiet (fail); try go_wp2)
         go_meet
         case rel => exact ⟨_, (false), x65_21, H', ⟨x65_22⟩, ⟨x65_11⟩⟩
        ·rw [if_neg c10] at H
         have c10b0 : (a1 == 34) = false := beq_eq_false_iff_ne.mpr c10
         have c10b1 : (a1 != 34) = true := bne_iff_ne.mpr c10
         have H' := Aside0.mk H
         clear H
         go_wp2
         repeat (go_quiet (fail); try go_wp2)
         go_meet
         case rel => exact ⟨_, ((a1 != 40)), x65_21, H', ⟨x65_22⟩, ⟨x65_11⟩⟩
 case rest =>
  clear HC3
  obtain ⟨kq, x41_2, rfl, HA, HJ2, HB⟩ := hcut
  cases kq with
  | zero => exact absurd HA.out (by simp [casketlaw11_LexLong.j0])
  | succ kj2 =>
   have H := HA.out
   clear HA
   simp only [casketlaw11_LexLong.j0] at H
   by_cases c11 : x41_2 = true
   ·subst c11
    have H1 : (some true) = some r := by rw [if_pos rfl] at H; exact H
    clear H
    have H := H1
    clear H1
    obtain rfl := Option.some.inj H
    go_wp2
    repeat (go_quiet (fail); try go_wp2)
    go_ret
    exact ⟨by first | rfl | (simp [errW_none, errW_some] <;> rfl) | (simp [*, errW_none, errW_some] <;> rfl), x65_11⟩
   ·replace c11 := Bool.eq_false_iff.mpr c11
    subst c11
    have H1 : (if 0 ≤ a0 then (if (a0 : Int).toNat ≤ 281474976710656 then (casketlaw11_LexLong.l0 kj2 a0 a1 (List.replicate (a0 : Int).toNat 0) 0) else (none)) else (none)) = some r := by rw [if_neg (show ¬ (false = true) by decide)] at H; exact H
    clear H
    have H := H1
    clear H1
    by_cases c12 : 0 ≤ a0
    ·rw [if_pos c12] at H
     have c12b0 := eq_true c12
     have c12b1 : decide (0 ≤ a0) = true := decide_eq_true c12
     clear c12
     by_cases c13 : (a0 : Int).toNat ≤ 281474976710656
     ·rw [if_pos c13] at H
      have c13b0 := eq_true c13
      have c13b1 : decide ((a0 : Int).toNat ≤ 281474976710656) = true := decide_eq_true c13
      clear c13
      obtain ⟨y470, hy470⟩ : ∃ y_ : List Int, y_ = (List.replicate (a0 : Int).toNat 0) := ⟨_, rfl⟩
      replace H : (casketlaw11_LexLong.l0 kj2 a0 a1 y470 0) = some r := by first | (rw [hy470]; with_reducible exact H) | (have H2_ := (Option.bind_some _ _).symm.trans H; rw [hy470]; with_reducible exact H2_) | (have H2_ := (Option.bind_some _ _).symm.trans H; with_reducible exact H2_) | with_reducible exact H | (rw [hy470]; exact H) | exact H
      have Ny470 := Aside0.mk hy470
      clear hy470
      have H' := Aside0.mk H
      clear H
      go_wp2_with (first | ((with_reducible refine gate_dst (N := 43) rfl ?_); refine Kd.R_make (Kd.int .u8) _ 5 rfl (N := 43) rfl 36 _ _ rfl a0 rfl rfl Tryd.underlying36 (.int .u8 0) 1 info5 rfl (by decide) (by omega) 0 (ok := fun _ => True) (okp := fun _ => True) rfl (fun _ hk => hk) trivial (of_decide_eq_true x65_20) (Nat.le_trans (Nat.mul_le_mul_right _ (of_decide_eq_true x65_20 : a0.toNat ≤ 281474976710656)) (by omega)) (Below.refl _ _) (Nat.le_refl _) ?_; intro v471 w14 ho15 hb hg_ hnew_; clear hg_ hnew_; (first | rw [← Ny470.out] at ho15 | (simp only [Int.reduceToNat] at ho15; rw [← Ny470.out] at ho15)); have n0_ := Aside0.mk (Kd.R_lower ho15 (below_size x65_11)); have n1_ := Aside0.mk (below_step x65_11 hb); clear HB; have HO472 := n0_; have HB := n1_; clear n0_ n1_; clear hb ho15))
      repeat (go_quiet (first | ((with_reducible refine gate_dst (N := 43) rfl ?_); refine Kd.R_make (Kd.int .u8) _ 5 rfl (N := 43) rfl 36 _ _ rfl a0 rfl rfl Tryd.underlying36 (.int .u8 0) 1 info5 rfl (by decide) (by omega) 0 (ok := fun _ => True) (okp := fun _ => True) rfl (fun _ hk => hk) trivial (of_decide_eq_true x65_20) (Nat.le_trans (Nat.mul_le_mul_right _ (of_decide_eq_true x65_20 : a0.toNat ≤ 281474976710656)) (by omega)) (Below.refl _ _) (Nat.le_refl _) ?_; intro v471 w14 ho15 hb hg_ hnew_; clear hg_ hnew_; (first | rw [← Ny470.out] at ho15 | (simp only [Int.reduceToNat] at ho15; rw [← Ny470.out] at ho15)); have n0_ := Aside0.mk (Kd.R_lower ho15 (below_size x65_11)); have n1_ := Aside0.mk (below_step x65_11 hb); clear HB; have HO472 := n0_; have HB := n1_; clear n0_ n1_; clear hb ho15)); try go_wp2_with (first | ((with_reducible refine gate_dst (N := 43) rfl ?_); refine Kd.R_make (Kd.int .u8) _ 5 rfl (N := 43) rfl 36 _ _ rfl a0 rfl rfl Tryd.underlying36 (.int .u8 0) 1 info5 rfl (by decide) (by omega) 0 (ok := fun _ => True) (okp := fun _ => True) rfl (fun _ hk => hk) trivial (of_decide_eq_true x65_20) (Nat.le_trans (Nat.mul_le_mul_right _ (of_decide_eq_true x65_20 : a0.toNat ≤ 281474976710656)) (by omega)) (Below.refl _ _) (Nat.le_refl _) ?_; intro v471 w14 ho15 hb hg_ hnew_; clear hg_ hnew_; (first | rw [← Ny470.out] at ho15 | (simp only [Int.reduceToNat] at ho15; rw [← Ny470.out] at ho15)); have n0_ := Aside0.mk (Kd.R_lower ho15 (below_size x65_11)); have n1_ := Aside0.mk (below_step x65_11 hb); clear HB; have HO472 := n0_; have HB := n1_; clear n0_ n1_; clear hb ho15)))
      go_loopg [6] kj2 (fun kq v6 w' => ∃ (x5_2 : List Int) (x6_2 : Int), v6 = .int .i64 x6_2 ∧ Aside0 (casketlaw11_LexLong.l0 kq a0 a1 x5_2 x6_2 = some r) ∧ Aside0 (kq ≤ kj2) ∧ Aside0 (Kd.R (Kd.int .u8) 5 w' w.heap.size (fun _ => True) v471 x5_2) ∧ Aside0 (Below w.heap.size w w'))
      case atStart => exact ⟨(y470), (0), x65_21, H', ⟨Nat.le_refl _⟩, ⟨by (with_reducible repeat (first | apply Kd.R_alloc | apply Kd.R_drewN | apply Kd.R_drew)); exact HO472.out⟩, ⟨x65_11⟩⟩
      case round =>
       clear H'
       obtain ⟨x5_2, x6_2, rfl, HA, HK2, HO_5, HB⟩ := hrel
       cases gk with
       | zero => exact absurd HA.out (by simp [casketlaw11_LexLong.l0])
       | succ k2 =>
        have H := HA.out
        clear HA
        simp only [casketlaw11_LexLong.l0] at H
        by_cases c16 : x6_2 < a0
        ·rw [if_pos c16] at H
         have c16b0 : decide (x6_2 < a0) = true := decide_eq_true c16
         clear c16
         by_cases c17 : 0 ≤ x6_2
         ·rw [if_pos c17] at H
          have c17b0 : decide (0 ≤ x6_2) = true := decide_eq_true c17
          clear c17
          by_cases c18 : x6_2 < (x5_2.length : Int)
          ·rw [if_pos c18] at H
           have c18b0 : decide (x6_2 < (x5_2.length : Int)) = true := decide_eq_true c18
           clear c18
           obtain ⟨y473, hy473⟩ : ∃ y_ : List Int, y_ = (x5_2.set (x6_2 : Int).toNat 32) := ⟨_, rfl⟩
           replace H : (casketlaw11_LexLong.l0 k2 a0 a1 y473 (wrap64 (x6_2 + 1))) = some r := by first | (rw [hy473]; with_reducible exact H) | (have H2_ := (Option.bind_some _ _).symm.trans H; rw [hy473]; with_reducible exact H2_) | (have H2_ := (Option.bind_some _ _).symm.trans H; with_reducible exact H2_) | with_reducible exact H | (rw [hy473]; exact H) | exact H
           have Ny473 := Aside0.mk hy473
           clear hy473
           have H' := Aside0.mk H
           clear H
           have p19 : 0 ≤ (x6_2 : Int) := of_decide_eq_true x65_20
           have q19 : (x6_2 : Int) < ((x5_2.length : Int) : Int) := of_decide_eq_true x65_20
           obtain ⟨go19, co19, eo19, gb19, gl19, cl19, HG19⟩ := Kd.R_form HO_5.out (by omega)
           (first | cases eo19 | (injection eo19 with ea_ en_ ec_; (first | subst ea_ | (injection ea_ with ea_; subst ea_)); subst ec_; clear en_))
           have GB19 := Aside0.mk gb19
           have GG19 := Aside0.mk HG19
           clear gb19 gl19 HG19
           obtain ⟨hx19_0, hf19_0⟩ := Kd.R_celln 0 HO_5.out (x6_2 : Int) p19 q19
           replace p19 := eq_true p19
           replace q19 := eq_true q19
           have HP20 := Kd.R_putg HO_5.out (x6_2 : Int) 32
           go_wp2_with (first | ((with_reducible refine gate_store (t := 5) (p := 51) rfl ?_); (try (rw [drewN_self wr]; generalize hq_ : World.drewN wr _ = wr; have n0_ := Aside0.mk (Kd.R_at hq_ HO_5.out); have n1_ := Aside0.mk (below_at hq_ HB.out); clear hq_ HO_5 HB; have HO_5 := n0_; have HB := n1_; clear n0_ n1_; (try (have HP20 := Kd.R_putg HO_5.out (x6_2 : Int) 32)))); refine store_event (t := 5) (p := 51) (v := ?vo_w21) (w1 := (wr.setCell ⟨go19, (x6_2 : Int).toNat, none⟩ (.int .u8 32))) ?hg ?ho ?hn ?hr ?_; (case ho => rfl); (case hg => rfl); (case hn => rfl); (case hr => first | (go_simp; done) | (go_simp; rfl)); intro w21 hw; have hg : wr.grownBy w21 (some go19) := (by rw [hw]; exact HP20.2); have hp_ : Kd.R (Kd.int .u8) 5 w21 w.heap.size (fun _ => True) (.slice (some ⟨go19, 0, none⟩) x5_2.length co19) y473 := (by rw [hw, Ny473.out]; exact HP20.1); clear HP20; have n0_ := Aside0.mk (hp_); have n1_ := Aside0.mk ((by rw [hw]; exact below_set (HB.out) GB19.out : Below w.heap.size w w21)); clear HO_5; clear HB; have HO_5 := n0_; have HB := n1_; clear n0_ n1_; clear hg hw hp_))
           repeat (go_quiet (first | ((with_reducible refine gate_store (t := 5) (p := 51) rfl ?_); (try (rw [drewN_self wr]; generalize hq_ : World.drewN wr _ = wr; have n0_ := Aside0.mk (Kd.R_at hq_ HO_5.out); have n1_ := Aside0.mk (below_at hq_ HB.out); clear hq_ HO_5 HB; have HO_5 := n0_; have HB := n1_; clear n0_ n1_; (try (have HP20 := Kd.R_putg HO_5.out (x6_2 : Int) 32)))); refine store_event (t := 5) (p := 51) (v := ?vo_w21) (w1 := (wr.setCell ⟨go19, (x6_2 : Int).toNat, none⟩ (.int .u8 32))) ?hg ?ho ?hn ?hr ?_; (case ho => rfl); (case hg => rfl); (case hn => rfl); (case hr => first | (go_simp; done) | (go_simp; rfl)); intro w21 hw; have hg : wr.grownBy w21 (some go19) := (by rw [hw]; exact HP20.2); have hp_ : Kd.R (Kd.int .u8) 5 w21 w.heap.size (fun _ => True) (.slice (some ⟨go19, 0, none⟩) x5_2.length co19) y473 := (by rw [hw, Ny473.out]; exact HP20.1); clear HP20; have n0_ := Aside0.mk (hp_); have n1_ := Aside0.mk ((by rw [hw]; exact below_set (HB.out) GB19.out : Below w.heap.size w w21)); clear HO_5; clear HB; have HO_5 := n0_; have HB := n1_; clear n0_ n1_; clear hg hw hp_)); try go_wp2_with (first | ((with_reducible refine gate_store (t := 5) (p := 51) rfl ?_); (try (rw [drewN_self wr]; generalize hq_ : World.drewN wr _ = wr; have n0_ := Aside0.mk (Kd.R_at hq_ HO_5.out); have n1_ := Aside0.mk (below_at hq_ HB.out); clear hq_ HO_5 HB; have HO_5 := n0_; have HB := n1_; clear n0_ n1_; (try (have HP20 := Kd.R_putg HO_5.out (x6_2 : Int) 32)))); refine store_event (t := 5) (p := 51) (v := ?vo_w21) (w1 := (wr.setCell ⟨go19, (x6_2 : Int).toNat, none⟩ (.int .u8 32))) ?hg ?ho ?hn ?hr ?_; (case ho => rfl); (case hg => rfl); (case hn => rfl); (case hr => first | (go_simp; done) | (go_simp; rfl)); intro w21 hw; have hg : wr.grownBy w21 (some go19) := (by rw [hw]; exact HP20.2); have hp_ : Kd.R (Kd.int .u8) 5 w21 w.heap.size (fun _ => True) (.slice (some ⟨go19, 0, none⟩) x5_2.length co19) y473 := (by rw [hw, Ny473.out]; exact HP20.1); clear HP20; have n0_ := Aside0.mk (hp_); have n1_ := Aside0.mk ((by rw [hw]; exact below_set (HB.out) GB19.out : Below w.heap.size w w21)); clear HO_5; clear HB; have HO_5 := n0_; have HB := n1_; clear n0_ n1_; clear hg hw hp_)))
           go_roundg k2
           case measure => have := HJ2.out; have := HK2.out; omega
           case rel => exact ⟨(y473), (wrap64 (x6_2 + 1)), x65_21, H', ⟨by have := HJ2.out; have := HK2.out; omega⟩, ⟨x65_14⟩, ⟨x65_11⟩⟩
          ·rw [if_neg c18] at H
           exact absurd H (by simp)
         ·rw [if_neg c17] at H
          exact absurd H (by simp)
        ·rw [if_neg c16] at H
         have c16b0 : decide (x6_2 < a0) = false := decide_eq_false c16
         clear c16
         obtain ⟨ji22, hji22⟩ : ∃ j_ : Int, (wrap64 (a0 - 1)) = j_ := ⟨_, rfl⟩
         replace H : (if 0 ≤ (ji22) then (if (ji22) < (x5_2.length : Int) then ((some (x5_2.set ((ji22) : Int).toNat a1 : List Int)).bind fun y474 => ((lex_All.f (strOfNums y474)).bind fun bt475 => (if a0 > 65536 then (if (bt475.1.length : Int) = 0 then (if (bt475.2.1 == 2 && (bt475.2.2 == 0)) = true then ((casketlaw11_awake.f).bind fun t481 => (some t481)) else (some false)) else (some false)) else ((casketref11_All.f k2 (strOfNums y474)).bind fun bt482 => (if (bt475.1.length : Int) = (bt482.1.length : Int) then (casketlaw11_LexLong.j2 k2 bt475.1 bt482.1 (!(bt475.2.1 == bt482.2.1) || (!(bt475.2.2 == bt482.2.2)))) else (casketlaw11_LexLong.j2 k2 bt475.1 bt482.1 true)))))) else (none)) else (none)) = some r := by first | (rw [hji22] at H; exact H) | (simp only [hji22] at H ⊢; exact H)
         have hji22w : (IntKind.i64.wrap (a0 - 1)) = ji22 := (i64_w _).trans hji22
         by_cases c23 : 0 ≤ (ji22)
         ·rw [if_pos c23] at H
          have c23b0 : decide (0 ≤ (ji22)) = true := decide_eq_true c23
          clear c23
          by_cases c24 : (ji22) < (x5_2.length : Int)
          ·rw [if_pos c24] at H
           have c24b0 : decide ((ji22) < (x5_2.length : Int)) = true := decide_eq_true c24
           clear c24
           obtain ⟨y474, hy474⟩ : ∃ y_ : List Int, y_ = (x5_2.set ((ji22) : Int).toNat a1) := ⟨_, rfl⟩
           replace H : ((lex_All.f (strOfNums y474)).bind fun bt475 => (if a0 > 65536 then (if (bt475.1.length : Int) = 0 then (if (bt475.2.1 == 2 && (bt475.2.2 == 0)) = true then ((casketlaw11_awake.f).bind fun t481 => (some t481)) else (some false)) else (some false)) else ((casketref11_All.f k2 (strOfNums y474)).bind fun bt482 => (if (bt475.1.length : Int) = (bt482.1.length : Int) then (casketlaw11_LexLong.j2 k2 bt475.1 bt482.1 (!(bt475.2.1 == bt482.2.1) || (!(bt475.2.2 == bt482.2.2)))) else (casketlaw11_LexLong.j2 k2 bt475.1 bt482.1 true))))) = some r := by first | (rw [hy474]; with_reducible exact H) | (have H2_ := (Option.bind_some _ _).symm.trans H; rw [hy474]; with_reducible exact H2_) | (have H2_ := (Option.bind_some _ _).symm.trans H; with_reducible exact H2_) | with_reducible exact H | (rw [hy474]; exact H) | exact H
           have Ny474 := Aside0.mk hy474
           clear hy474
           replace H := Option.bind_eq_some_iff.mp H
           obtain ⟨⟨t475, t478, t479⟩, A260, H⟩ := H
           replace H : (if a0 > 65536 then (if (t475.length : Int) = 0 then (if (t478 == 2 && (t479 == 0)) = true then ((casketlaw11_awake.f).bind fun t481 => (some t481)) else (some false)) else (some false)) else ((casketref11_All.f k2 (strOfNums y474)).bind fun bt482 => (if (t475.length : Int) = (bt482.1.length : Int) then (casketlaw11_LexLong.j2 k2 t475 bt482.1 (!(t478 == bt482.2.1) || (!(t479 == bt482.2.2)))) else (casketlaw11_LexLong.j2 k2 t475 bt482.1 true)))) = some r := H
           have A26 := Aside0.mk A260
           clear A260
           by_cases c27 : a0 > 65536
           ·rw [if_pos c27] at H
            have c27b0 : decide (65536 < a0) = true := decide_eq_true c27
            clear c27
            by_cases c28 : (t475.length : Int) = 0
            ·rw [if_pos c28] at H
             have c28b0 : ((t475.length : Int) == 0) = true := beq_iff_eq.mpr c28
             have c28b1 : ((t475.length : Int) != 0) = false := bne_eq_false_iff_eq.mpr c28
             clear c28
             by_cases c29 : (t478 == 2 && (t479 == 0)) = true
             ·rw [if_pos c29] at H
              have c29b0 : (t478 == 2 && (t479 == 0)) = true := c29
              (try (have c29b1 : decide (t478 = 2 && (t479 == 0)) = true := by simpa using c29))
              (try (have c29b2 : (t478 == 2 && (t479 == 0)) = true := by simpa using c29))
              clear c29
              replace H := Option.bind_eq_some_iff.mp H
              obtain ⟨t481, A300, H⟩ := H
              replace H : (some t481) = some r := H
              have A30 := Aside0.mk A300
              clear A300
              obtain rfl := Option.some.inj H
              have p25 : 0 ≤ ((ji22) : Int) := of_decide_eq_true x65_20
              have q25 : ((ji22) : Int) < ((x5_2.length : Int) : Int) := of_decide_eq_true x65_20
              obtain ⟨go25, co25, eo25, gb25, gl25, cl25, HG25⟩ := Kd.R_form HO_5.out (by omega)
              (first | cases eo25 | (injection eo25 with ea_ en_ ec_; (first | subst ea_ | (injection ea_ with ea_; subst ea_)); subst ec_; clear en_))
              have GB25 := Aside0.mk gb25
              have GG25 := Aside0.mk HG25
              clear gb25 gl25 HG25
              obtain ⟨hx25_0, hf25_0⟩ := Kd.R_celln 0 HO_5.out ((ji22) : Int) p25 q25
              replace p25 := eq_true p25
              replace q25 := eq_true q25
              have HP31 := Kd.R_putg HO_5.out ((ji22) : Int) a1
              go_wp2_with (first | ((with_reducible refine gate_store (t := 5) (p := 56) rfl ?_); (try (rw [drewN_self wr]; generalize hq_ : World.drewN wr _ = wr; have n0_ := Aside0.mk (Kd.R_at hq_ HO_5.out); have n1_ := Aside0.mk (below_at hq_ HB.out); clear hq_ HO_5 HB; have HO_5 := n0_; have HB := n1_; clear n0_ n1_; (try (have HP31 := Kd.R_putg HO_5.out ((ji22) : Int) a1)))); refine store_event (t := 5) (p := 56) (v := ?vo_w32) (w1 := (wr.setCell ⟨go25, ((ji22) : Int).toNat, none⟩ (.int .u8 a1))) ?hg ?ho ?hn ?hr ?_; (case ho => rfl); (case hg => rfl); (case hn => rfl); (case hr => first | (go_simp; done) | (go_simp; rfl)); intro w32 hw; have hg : wr.grownBy w32 (some go25) := (by rw [hw]; exact HP31.2); have hp_ : Kd.R (Kd.int .u8) 5 w32 w.heap.size (fun _ => True) (.slice (some ⟨go25, 0, none⟩) x5_2.length co25) y474 := (by rw [hw, Ny474.out]; exact HP31.1); clear HP31; have n0_ := Aside0.mk (hp_); have n1_ := Aside0.mk ((by rw [hw]; exact below_set (HB.out) GB25.out : Below w.heap.size w w32)); clear HO_5; clear HB; have HO_5 := n0_; have HB := n1_; clear n0_ n1_; clear hg hw hp_; have hcv33 := own_string (P := Tryd.prog) Tryd.underlying36 Tryd.underlying5 Tryd.underlying9 (Kd.own_of_R HO_5.out)) | (go_at_call 9; (with_reducible refine (lex_All.calls (hG := x65_7) (strOfNums y474) t475 t478 t479 _ A26.out).mono ?_); rintro e w34 ⟨v476, rfl, ho0, hb⟩; have n0_ := Aside0.mk (Kd.R_below x65_14 hb); have n1_ := Aside0.mk (Kd.R_lower ho0 (below_size x65_11)); have n2_ := Aside0.mk (below_step x65_11 hb); clear HO_5; clear HB; have HO_5 := n0_; have HO477 := n1_; have HB := n2_; clear n0_ n1_ n2_) | ((with_reducible refine gate_dst (N := 8) rfl ?_); refine box_event ?hg (N := 8) ?hd (cs := #[.int .i64 0, .int .i64 0]) (t := 25) ?hr ?_; (case hd => rfl); (case hg => rfl); (case hr => first | (go_simp; done) | (go_simp; rfl)); intro gb480 hg w35 hbox hb; have n0_ := Aside0.mk (Kd.R_below x65_14 hb); have n1_ := Aside0.mk (Kd.R_below x65_12 hb); have n2_ := Aside0.mk (below_step x65_11 hb); have n3_ := Aside0.mk (hbox); have n4_ := Aside0.mk ((by rw [hg]; exact (below_size x65_11) : w.heap.size ≤ gb480)); have n5_ := Aside0.mk ((by rw [hg]; exact (below_size x65_11) : w.heap.size ≤ gb480)); clear HO_5; clear HO477; clear HB; have HO_5 := n0_; have HO477 := n1_; have HB := n2_; have BK480 := n3_; have GW480 := n4_; have GE480 := n5_; clear n0_ n1_ n2_ n3_ n4_ n5_; clear hb hbox hg; have hcz36_0 : w35.cell? ⟨gb480, 0, none⟩ = some (.int .i64 0) := (blk_cell BK480.out 0).trans rfl; have hcz36_1 : w35.cell? ⟨gb480, 1, none⟩ = some (.int .i64 0) := (blk_cell BK480.out 1).trans rfl; have hfz36_0 := blk_frozen BK480.out 0; have hfz36_1 := blk_frozen BK480.out 1; obtain ⟨Ao37, co37, eo37⟩ := Kd.R_slice HO477.out; subst eo37) | (go_at_call 12; (with_reducible refine (casketlaw11_awake.calls (hG := x65_7)  t481 _ A30.out).mono ?_); rintro e w38 ⟨rfl, hb⟩; have n0_ := Aside0.mk (Kd.R_below x65_6 hb); have n1_ := Aside0.mk (Kd.R_below x65_3 hb); have n2_ := Aside0.mk (blk_below (g := gb480) (o := .cells #[.int .i64 t478, .int .i64 t479] 25 (0, 0)) x65_0 hb); have n3_ := Aside0.mk (below_step x65_10 hb); clear HO_5; clear HO477; clear BK480; clear HB; have HO_5 := n0_; have HO477 := n1_; have BK480 := n2_; have HB := n3_; clear n0_ n1_ n2_ n3_))
              repeat (go_quiet (first | ((with_reducible refine gate_store (t := 5) (p := 56) rfl ?_); (try (rw [drewN_self wr]; generalize hq_ : World.drewN wr _ = wr; have n0_ := Aside0.mk (Kd.R_at hq_ HO_5.out); have n1_ := Aside0.mk (below_at hq_ HB.out); clear hq_ HO_5 HB; have HO_5 := n0_; have HB := n1_; clear n0_ n1_; (try (have HP31 := Kd.R_putg HO_5.out ((ji22) : Int) a1)))); refine store_event (t := 5) (p := 56) (v := ?vo_w32) (w1 := (wr.setCell ⟨go25, ((ji22) : Int).toNat, none⟩ (.int .u8 a1))) ?hg ?ho ?hn ?hr ?_; (case ho => rfl); (case hg => rfl); (case hn => rfl); (case hr => first | (go_simp; done) | (go_simp; rfl)); intro w32 hw; have hg : wr.grownBy w32 (some go25) := (by rw [hw]; exact HP31.2); have hp_ : Kd.R (Kd.int .u8) 5 w32 w.heap.size (fun _ => True) (.slice (some ⟨go25, 0, none⟩) x5_2.length co25) y474 := (by rw [hw, Ny474.out]; exact HP31.1); clear HP31; have n0_ := Aside0.mk (hp_); have n1_ := Aside0.mk ((by rw [hw]; exact below_set (HB.out) GB25.out : Below w.heap.size w w32)); clear HO_5; clear HB; have HO_5 := n0_; have HB := n1_; clear n0_ n1_; clear hg hw hp_; have hcv33 := own_string (P := Tryd.prog) Tryd.underlying36 Tryd.underlying5 Tryd.underlying9 (Kd.own_of_R HO_5.out)) | (go_at_call 9; (with_reducible refine (lex_All.calls (hG := x65_7) (strOfNums y474) t475 t478 t479 _ A26.out).mono ?_); rintro e w34 ⟨v476, rfl, ho0, hb⟩; have n0_ := Aside0.mk (Kd.R_below x65_14 hb); have n1_ := Aside0.mk (Kd.R_lower ho0 (below_size x65_11)); have n2_ := Aside0.mk (below_step x65_11 hb); clear HO_5; clear HB; have HO_5 := n0_; have HO477 := n1_; have HB := n2_; clear n0_ n1_ n2_) | ((with_reducible refine gate_dst (N := 8) rfl ?_); refine box_event ?hg (N := 8) ?hd (cs := #[.int .i64 0, .int .i64 0]) (t := 25) ?hr ?_; (case hd => rfl); (case hg => rfl); (case hr => first | (go_simp; done) | (go_simp; rfl)); intro gb480 hg w35 hbox hb; have n0_ := Aside0.mk (Kd.R_below x65_14 hb); have n1_ := Aside0.mk (Kd.R_below x65_12 hb); have n2_ := Aside0.mk (below_step x65_11 hb); have n3_ := Aside0.mk (hbox); have n4_ := Aside0.mk ((by rw [hg]; exact (below_size x65_11) : w.heap.size ≤ gb480)); have n5_ := Aside0.mk ((by rw [hg]; exact (below_size x65_11) : w.heap.size ≤ gb480)); clear HO_5; clear HO477; clear HB; have HO_5 := n0_; have HO477 := n1_; have HB := n2_; have BK480 := n3_; have GW480 := n4_; have GE480 := n5_; clear n0_ n1_ n2_ n3_ n4_ n5_; clear hb hbox hg; have hcz36_0 : w35.cell? ⟨gb480, 0, none⟩ = some (.int .i64 0) := (blk_cell BK480.out 0).trans rfl; have hcz36_1 : w35.cell? ⟨gb480, 1, none⟩ = some (.int .i64 0) := (blk_cell BK480.out 1).trans rfl; have hfz36_0 := blk_frozen BK480.out 0; have hfz36_1 := blk_frozen BK480.out 1; obtain ⟨Ao37, co37, eo37⟩ := Kd.R_slice HO477.out; subst eo37) | (go_at_call 12; (with_reducible refine (casketlaw11_awake.calls (hG := x65_7)  t481 _ A30.out).mono ?_); rintro e w38 ⟨rfl, hb⟩; have n0_ := Aside0.mk (Kd.R_below x65_6 hb); have n1_ := Aside0.mk (Kd.R_below x65_3 hb); have n2_ := Aside0.mk (blk_below (g := gb480) (o := .cells #[.int .i64 t478, .int .i64 t479] 25 (0, 0)) x65_0 hb); have n3_ := Aside0.mk (below_step x65_10 hb); clear HO_5; clear HO477; clear BK480; clear HB; have HO_5 := n0_; have HO477 := n1_; have BK480 := n2_; have HB := n3_; clear n0_ n1_ n2_ n3_)); try go_wp2_with (first | ((with_reducible refine gate_store (t := 5) (p := 56) rfl ?_); (try (rw [drewN_self wr]; generalize hq_ : World.drewN wr _ = wr; have n0_ := Aside0.mk (Kd.R_at hq_ HO_5.out); have n1_ := Aside0.mk (below_at hq_ HB.out); clear hq_ HO_5 HB; have HO_5 := n0_; have HB := n1_; clear n0_ n1_; (try (have HP31 := Kd.R_putg HO_5.out ((ji22) : Int) a1)))); refine store_event (t := 5) (p := 56) (v := ?vo_w32) (w1 := (wr.setCell ⟨go25, ((ji22) : Int).toNat, none⟩ (.int .u8 a1))) ?hg ?ho ?hn ?hr ?_; (case ho => rfl); (case hg => rfl); (case hn => rfl); (case hr => first | (go_simp; done) | (go_simp; rfl)); intro w32 hw; have hg : wr.grownBy w32 (some go25) := (by rw [hw]; exact HP31.2); have hp_ : Kd.R (Kd.int .u8) 5 w32 w.heap.size (fun _ => True) (.slice (some ⟨go25, 0, none⟩) x5_2.length co25) y474 := (by rw [hw, Ny474.out]; exact HP31.1); clear HP31; have n0_ := Aside0.mk (hp_); have n1_ := Aside0.mk ((by rw [hw]; exact below_set (HB.out) GB25.out : Below w.heap.size w w32)); clear HO_5; clear HB; have HO_5 := n0_; have HB := n1_; clear n0_ n1_; clear hg hw hp_; have hcv33 := own_string (P := Tryd.prog) Tryd.underlying36 Tryd.underlying5 Tryd.underlying9 (Kd.own_of_R HO_5.out)) | (go_at_call 9; (with_reducible refine (lex_All.calls (hG := x65_7) (strOfNums y474) t475 t478 t479 _ A26.out).mono ?_); rintro e w34 ⟨v476, rfl, ho0, hb⟩; have n0_ := Aside0.mk (Kd.R_below x65_14 hb); have n1_ := Aside0.mk (Kd.R_lower ho0 (below_size x65_11)); have n2_ := Aside0.mk (below_step x65_11 hb); clear HO_5; clear HB; have HO_5 := n0_; have HO477 := n1_; have HB := n2_; clear n0_ n1_ n2_) | ((with_reducible refine gate_dst (N := 8) rfl ?_); refine box_event ?hg (N := 8) ?hd (cs := #[.int .i64 0, .int .i64 0]) (t := 25) ?hr ?_; (case hd => rfl); (case hg => rfl); (case hr => first | (go_simp; done) | (go_simp; rfl)); intro gb480 hg w35 hbox hb; have n0_ := Aside0.mk (Kd.R_below x65_14 hb); have n1_ := Aside0.mk (Kd.R_below x65_12 hb); have n2_ := Aside0.mk (below_step x65_11 hb); have n3_ := Aside0.mk (hbox); have n4_ := Aside0.mk ((by rw [hg]; exact (below_size x65_11) : w.heap.size ≤ gb480)); have n5_ := Aside0.mk ((by rw [hg]; exact (below_size x65_11) : w.heap.size ≤ gb480)); clear HO_5; clear HO477; clear HB; have HO_5 := n0_; have HO477 := n1_; have HB := n2_; have BK480 := n3_; have GW480 := n4_; have GE480 := n5_; clear n0_ n1_ n2_ n3_ n4_ n5_; clear hb hbox hg; have hcz36_0 : w35.cell? ⟨gb480, 0, none⟩ = some (.int .i64 0) := (blk_cell BK480.out 0).trans rfl; have hcz36_1 : w35.cell? ⟨gb480, 1, none⟩ = some (.int .i64 0) := (blk_cell BK480.out 1).trans rfl; have hfz36_0 := blk_frozen BK480.out 0; have hfz36_1 := blk_frozen BK480.out 1; obtain ⟨Ao37, co37, eo37⟩ := Kd.R_slice HO477.out; subst eo37) | (go_at_call 12; (with_reducible refine (casketlaw11_awake.calls (hG := x65_7)  t481 _ A30.out).mono ?_); rintro e w38 ⟨rfl, hb⟩; have n0_ := Aside0.mk (Kd.R_below x65_6 hb); have n1_ := Aside0.mk (Kd.R_below x65_3 hb); have n2_ := Aside0.mk (blk_below (g := gb480) (o := .cells #[.int .i64 t478, .int .i64 t479] 25 (0, 0)) x65_0 hb); have n3_ := Aside0.mk (below_step x65_10 hb); clear HO_5; clear HO477; clear BK480; clear HB; have HO_5 := n0_; have HO477 := n1_; have BK480 := n2_; have HB := n3_; clear n0_ n1_ n2_ n3_)))
              go_ret
              exact ⟨x65_9, x65_10⟩
             ·rw [if_neg c29] at H
              have c29b0 : (t478 == 2 && (t479 == 0)) = false := by simpa using c29
              (try (have c29b1 : decide (t478 = 2 && (t479 == 0)) = false := by simpa using c29))
              (try (have c29b2 : (t478 == 2 && (t479 == 0)) = false := by simpa using c29))
              (try (have c29b3 : ¬ (t478 = 2 && (t479 == 0)) := by simpa using c29))
              clear c29
              obtain rfl := Option.some.inj H
              have p25 : 0 ≤ ((ji22) : Int) := of_decide_eq_true x65_20
              have q25 : ((ji22) : Int) < ((x5_2.length : Int) : Int) := of_decide_eq_true x65_20
              obtain ⟨go25, co25, eo25, gb25, gl25, cl25, HG25⟩ := Kd.R_form HO_5.out (by omega)
              (first | cases eo25 | (injection eo25 with ea_ en_ ec_; (first | subst ea_ | (injection ea_ with ea_; subst ea_)); subst ec_; clear en_))
              have GB25 := Aside0.mk gb25
              have GG25 := Aside0.mk HG25
              clear gb25 gl25 HG25
              obtain ⟨hx25_0, hf25_0⟩ := Kd.R_celln 0 HO_5.out ((ji22) : Int) p25 q25
              replace p25 := eq_true p25
              replace q25 := eq_true q25
              have HP39 := Kd.R_putg HO_5.out ((ji22) : Int) a1
              go_wp2_with (first | ((with_reducible refine gate_store (t := 5) (p := 56) rfl ?_); (try (rw [drewN_self wr]; generalize hq_ : World.drewN wr _ = wr; have n0_ := Aside0.mk (Kd.R_at hq_ HO_5.out); have n1_ := Aside0.mk (below_at hq_ HB.out); clear hq_ HO_5 HB; have HO_5 := n0_; have HB := n1_; clear n0_ n1_; (try (have HP39 := Kd.R_putg HO_5.out ((ji22) : Int) a1)))); refine store_event (t := 5) (p := 56) (v := ?vo_w40) (w1 := (wr.setCell ⟨go25, ((ji22) : Int).toNat, none⟩ (.int .u8 a1))) ?hg ?ho ?hn ?hr ?_; (case ho => rfl); (case hg => rfl); (case hn => rfl); (case hr => first | (go_simp; done) | (go_simp; rfl)); intro w40 hw; have hg : wr.grownBy w40 (some go25) := (by rw [hw]; exact HP39.2); have hp_ : Kd.R (Kd.int .u8) 5 w40 w.heap.size (fun _ => True) (.slice (some ⟨go25, 0, none⟩) x5_2.length co25) y474 := (by rw [hw, Ny474.out]; exact HP39.1); clear HP39; have n0_ := Aside0.mk (hp_); have n1_ := Aside0.mk ((by rw [hw]; exact below_set (HB.out) GB25.out : Below w.heap.size w w40)); clear HO_5; clear HB; have HO_5 := n0_; have HB := n1_; clear n0_ n1_; clear hg hw hp_; have hcv41 := own_string (P := Tryd.prog) Tryd.underlying36 Tryd.underlying5 Tryd.underlying9 (Kd.own_of_R HO_5.out)) | (go_at_call 9; (with_reducible refine (lex_All.calls (hG := x65_7) (strOfNums y474) t475 t478 t479 _ A26.out).mono ?_); rintro e w42 ⟨v476, rfl, ho0, hb⟩; have n0_ := Aside0.mk (Kd.R_below x65_14 hb); have n1_ := Aside0.mk (Kd.R_lower ho0 (below_size x65_11)); have n2_ := Aside0.mk (below_step x65_11 hb); clear HO_5; clear HB; have HO_5 := n0_; have HO477 := n1_; have HB := n2_; clear n0_ n1_ n2_) | ((with_reducible refine gate_dst (N := 8) rfl ?_); refine box_event ?hg (N := 8) ?hd (cs := #[.int .i64 0, .int .i64 0]) (t := 25) ?hr ?_; (case hd => rfl); (case hg => rfl); (case hr => first | (go_simp; done) | (go_simp; rfl)); intro gb480 hg w43 hbox hb; have n0_ := Aside0.mk (Kd.R_below x65_14 hb); have n1_ := Aside0.mk (Kd.R_below x65_12 hb); have n2_ := Aside0.mk (below_step x65_11 hb); have n3_ := Aside0.mk (hbox); have n4_ := Aside0.mk ((by rw [hg]; exact (below_size x65_11) : w.heap.size ≤ gb480)); have n5_ := Aside0.mk ((by rw [hg]; exact (below_size x65_11) : w.heap.size ≤ gb480)); clear HO_5; clear HO477; clear HB; have HO_5 := n0_; have HO477 := n1_; have HB := n2_; have BK480 := n3_; have GW480 := n4_; have GE480 := n5_; clear n0_ n1_ n2_ n3_ n4_ n5_; clear hb hbox hg; have hcz44_0 : w43.cell? ⟨gb480, 0, none⟩ = some (.int .i64 0) := (blk_cell BK480.out 0).trans rfl; have hcz44_1 : w43.cell? ⟨gb480, 1, none⟩ = some (.int .i64 0) := (blk_cell BK480.out 1).trans rfl; have hfz44_0 := blk_frozen BK480.out 0; have hfz44_1 := blk_frozen BK480.out 1; obtain ⟨Ao45, co45, eo45⟩ := Kd.R_slice HO477.out; subst eo45))
              repeat (go_quiet (first | ((with_reducible refine gate_store (t := 5) (p := 56) rfl ?_); (try (rw [drewN_self wr]; generalize hq_ : World.drewN wr _ = wr; have n0_ := Aside0.mk (Kd.R_at hq_ HO_5.out); have n1_ := Aside0.mk (below_at hq_ HB.out); clear hq_ HO_5 HB; have HO_5 := n0_; have HB := n1_; clear n0_ n1_; (try (have HP39 := Kd.R_putg HO_5.out ((ji22) : Int) a1)))); refine store_event (t := 5) (p := 56) (v := ?vo_w40) (w1 := (wr.setCell ⟨go25, ((ji22) : Int).toNat, none⟩ (.int .u8 a1))) ?hg ?ho ?hn ?hr ?_; (case ho => rfl); (case hg => rfl); (case hn => rfl); (case hr => first | (go_simp; done) | (go_simp; rfl)); intro w40 hw; have hg : wr.grownBy w40 (some go25) := (by rw [hw]; exact HP39.2); have hp_ : Kd.R (Kd.int .u8) 5 w40 w.heap.size (fun _ => True) (.slice (some ⟨go25, 0, none⟩) x5_2.length co25) y474 := (by rw [hw, Ny474.out]; exact HP39.1); clear HP39; have n0_ := Aside0.mk (hp_); have n1_ := Aside0.mk ((by rw [hw]; exact below_set (HB.out) GB25.out : Below w.heap.size w w40)); clear HO_5; clear HB; have HO_5 := n0_; have HB := n1_; clear n0_ n1_; clear hg hw hp_; have hcv41 := own_string (P := Tryd.prog) Tryd.underlying36 Tryd.underlying5 Tryd.underlying9 (Kd.own_of_R HO_5.out)) | (go_at_call 9; (with_reducible refine (lex_All.calls (hG := x65_7) (strOfNums y474) t475 t478 t479 _ A26.out).mono ?_); rintro e w42 ⟨v476, rfl, ho0, hb⟩; have n0_ := Aside0.mk (Kd.R_below x65_14 hb); have n1_ := Aside0.mk (Kd.R_lower ho0 (below_size x65_11)); have n2_ := Aside0.mk (below_step x65_11 hb); clear HO_5; clear HB; have HO_5 := n0_; have HO477 := n1_; have HB := n2_; clear n0_ n1_ n2_) | ((with_reducible refine gate_dst (N := 8) rfl ?_); refine box_event ?hg (N := 8) ?hd (cs := #[.int .i64 0, .int .i64 0]) (t := 25) ?hr ?_; (case hd => rfl); (case hg => rfl); (case hr => first | (go_simp; done) | (go_simp; rfl)); intro gb480 hg w43 hbox hb; have n0_ := Aside0.mk (Kd.R_below x65_14 hb); have n1_ := Aside0.mk (Kd.R_below x65_12 hb); have n2_ := Aside0.mk (below_step x65_11 hb); have n3_ := Aside0.mk (hbox); have n4_ := Aside0.mk ((by rw [hg]; exact (below_size x65_11) : w.heap.size ≤ gb480)); have n5_ := Aside0.mk ((by rw [hg]; exact (below_size x65_11) : w.heap.size ≤ gb480)); clear HO_5; clear HO477; clear HB; have HO_5 := n0_; have HO477 := n1_; have HB := n2_; have BK480 := n3_; have GW480 := n4_; have GE480 := n5_; clear n0_ n1_ n2_ n3_ n4_ n5_; clear hb hbox hg; have hcz44_0 : w43.cell? ⟨gb480, 0, none⟩ = some (.int .i64 0) := (blk_cell BK480.out 0).trans rfl; have hcz44_1 : w43.cell? ⟨gb480, 1, none⟩ = some (.int .i64 0) := (blk_cell BK480.out 1).trans rfl; have hfz44_0 := blk_frozen BK480.out 0; have hfz44_1 := blk_frozen BK480.out 1; obtain ⟨Ao45, co45, eo45⟩ := Kd.R_slice HO477.out; subst eo45)); try go_wp2_with (first | ((with_reducible refine gate_store (t := 5) (p := 56) rfl ?_); (try (rw [drewN_self wr]; generalize hq_ : World.drewN wr _ = wr; have n0_ := Aside0.mk (Kd.R_at hq_ HO_5.out); have n1_ := Aside0.mk (below_at hq_ HB.out); clear hq_ HO_5 HB; have HO_5 := n0_; have HB := n1_; clear n0_ n1_; (try (have HP39 := Kd.R_putg HO_5.out ((ji22) : Int) a1)))); refine store_event (t := 5) (p := 56) (v := ?vo_w40) (w1 := (wr.setCell ⟨go25, ((ji22) : Int).toNat, none⟩ (.int .u8 a1))) ?hg ?ho ?hn ?hr ?_; (case ho => rfl); (case hg => rfl); (case hn => rfl); (case hr => first | (go_simp; done) | (go_simp; rfl)); intro w40 hw; have hg : wr.grownBy w40 (some go25) := (by rw [hw]; exact HP39.2); have hp_ : Kd.R (Kd.int .u8) 5 w40 w.heap.size (fun _ => True) (.slice (some ⟨go25, 0, none⟩) x5_2.length co25) y474 := (by rw [hw, Ny474.out]; exact HP39.1); clear HP39; have n0_ := Aside0.mk (hp_); have n1_ := Aside0.mk ((by rw [hw]; exact below_set (HB.out) GB25.out : Below w.heap.size w w40)); clear HO_5; clear HB; have HO_5 := n0_; have HB := n1_; clear n0_ n1_; clear hg hw hp_; have hcv41 := own_string (P := Tryd.prog) Tryd.underlying36 Tryd.underlying5 Tryd.underlying9 (Kd.own_of_R HO_5.out)) | (go_at_call 9; (with_reducible refine (lex_All.calls (hG := x65_7) (strOfNums y474) t475 t478 t479 _ A26.out).mono ?_); rintro e w42 ⟨v476, rfl, ho0, hb⟩; have n0_ := Aside0.mk (Kd.R_below x65_14 hb); have n1_ := Aside0.mk (Kd.R_lower ho0 (below_size x65_11)); have n2_ := Aside0.mk (below_step x65_11 hb); clear HO_5; clear HB; have HO_5 := n0_; have HO477 := n1_; have HB := n2_; clear n0_ n1_ n2_) | ((with_reducible refine gate_dst (N := 8) rfl ?_); refine box_event ?hg (N := 8) ?hd (cs := #[.int .i64 0, .int .i64 0]) (t := 25) ?hr ?_; (case hd => rfl); (case hg => rfl); (case hr => first | (go_simp; done) | (go_simp; rfl)); intro gb480 hg w43 hbox hb; have n0_ := Aside0.mk (Kd.R_below x65_14 hb); have n1_ := Aside0.mk (Kd.R_below x65_12 hb); have n2_ := Aside0.mk (below_step x65_11 hb); have n3_ := Aside0.mk (hbox); have n4_ := Aside0.mk ((by rw [hg]; exact (below_size x65_11) : w.heap.size ≤ gb480)); have n5_ := Aside0.mk ((by rw [hg]; exact (below_size x65_11) : w.heap.size ≤ gb480)); clear HO_5; clear HO477; clear HB; have HO_5 := n0_; have HO477 := n1_; have HB := n2_; have BK480 := n3_; have GW480 := n4_; have GE480 := n5_; clear n0_ n1_ n2_ n3_ n4_ n5_; clear hb hbox hg; have hcz44_0 : w43.cell? ⟨gb480, 0, none⟩ = some (.int .i64 0) := (blk_cell BK480.out 0).trans rfl; have hcz44_1 : w43.cell? ⟨gb480, 1, none⟩ = some (.int .i64 0) := (blk_cell BK480.out 1).trans rfl; have hfz44_0 := blk_frozen BK480.out 0; have hfz44_1 := blk_frozen BK480.out 1; obtain ⟨Ao45, co45, eo45⟩ := Kd.R_slice HO477.out; subst eo45)))
              go_ret
              exact ⟨x65_9, x65_10⟩
            ·rw [if_neg c28] at H
             have c28b0 : ((t475.length : Int) == 0) = false := beq_eq_false_iff_ne.mpr c28
             have c28b1 : ((t475.length : Int) != 0) = true := bne_iff_ne.mpr c28
             have c28b2 : ¬ (t475 = []) := fun h_ => c28 (by rw [h_]; rfl)
             obtain rfl := Option.some.inj H
             have p25 : 0 ≤ ((ji22) : Int) := of_decide_eq_true x65_20
             have q25 : ((ji22) : Int) < ((x5_2.length : Int) : Int) := of_decide_eq_true x65_20
             obtain ⟨go25, co25, eo25, gb25, gl25, cl25, HG25⟩ := Kd.R_form HO_5.out (by omega)
             (first | cases eo25 | (injection eo25 with ea_ en_ ec_; (first | subst ea_ | (injection ea_ with ea_; subst ea_)); subst ec_; clear en_))
             have GB25 := Aside0.mk gb25
             have GG25 := Aside0.mk HG25
             clear gb25 gl25 HG25
             obtain ⟨hx25_0, hf25_0⟩ := Kd.R_celln 0 HO_5.out ((ji22) : Int) p25 q25
             replace p25 := eq_true p25
             replace q25 := eq_true q25
             have HP46 := Kd.R_putg HO_5.out ((ji22) : Int) a1
             go_wp2_with (first | ((with_reducible refine gate_store (t := 5) (p := 56) rfl ?_); (try (rw [drewN_self wr]; generalize hq_ : World.drewN wr _ = wr; have n0_ := Aside0.mk (Kd.R_at hq_ HO_5.out); have n1_ := Aside0.mk (below_at hq_ HB.out); clear hq_ HO_5 HB; have HO_5 := n0_; have HB := n1_; clear n0_ n1_; (try (have HP46 := Kd.R_putg HO_5.out ((ji22) : Int) a1)))); refine store_event (t := 5) (p := 56) (v := ?vo_w47) (w1 := (wr.setCell ⟨go25, ((ji22) : Int).toNat, none⟩ (.int .u8 a1))) ?hg ?ho ?hn ?hr ?_; (case ho => rfl); (case hg => rfl); (case hn => rfl); (case hr => first | (go_simp; done) | (go_simp; rfl)); intro w47 hw; have hg : wr.grownBy w47 (some go25) := (by rw [hw]; exact HP46.2); have hp_ : Kd.R (Kd.int .u8) 5 w47 w.heap.size (fun _ => True) (.slice (some ⟨go25, 0, none⟩) x5_2.length co25) y474 := (by rw [hw, Ny474.out]; exact HP46.1); clear HP46; have n0_ := Aside0.mk (hp_); have n1_ := Aside0.mk ((by rw [hw]; exact below_set (HB.out) GB25.out : Below w.heap.size w w47)); clear HO_5; clear HB; have HO_5 := n0_; have HB := n1_; clear n0_ n1_; clear hg hw hp_; have hcv48 := own_string (P := Tryd.prog) Tryd.underlying36 Tryd.underlying5 Tryd.underlying9 (Kd.own_of_R HO_5.out)) | (go_at_call 9; (with_reducible refine (lex_All.calls (hG := x65_7) (strOfNums y474) t475 t478 t479 _ A26.out).mono ?_); rintro e w49 ⟨v476, rfl, ho0, hb⟩; have n0_ := Aside0.mk (Kd.R_below x65_14 hb); have n1_ := Aside0.mk (Kd.R_lower ho0 (below_size x65_11)); have n2_ := Aside0.mk (below_step x65_11 hb); clear HO_5; clear HB; have HO_5 := n0_; have HO477 := n1_; have HB := n2_; clear n0_ n1_ n2_) | ((with_reducible refine gate_dst (N := 8) rfl ?_); refine box_event ?hg (N := 8) ?hd (cs := #[.int .i64 0, .int .i64 0]) (t := 25) ?hr ?_; (case hd => rfl); (case hg => rfl); (case hr => first | (go_simp; done) | (go_simp; rfl)); intro gb480 hg w50 hbox hb; have n0_ := Aside0.mk (Kd.R_below x65_14 hb); have n1_ := Aside0.mk (Kd.R_below x65_12 hb); have n2_ := Aside0.mk (below_step x65_11 hb); have n3_ := Aside0.mk (hbox); have n4_ := Aside0.mk ((by rw [hg]; exact (below_size x65_11) : w.heap.size ≤ gb480)); have n5_ := Aside0.mk ((by rw [hg]; exact (below_size x65_11) : w.heap.size ≤ gb480)); clear HO_5; clear HO477; clear HB; have HO_5 := n0_; have HO477 := n1_; have HB := n2_; have BK480 := n3_; have GW480 := n4_; have GE480 := n5_; clear n0_ n1_ n2_ n3_ n4_ n5_; clear hb hbox hg; have hcz51_0 : w50.cell? ⟨gb480, 0, none⟩ = some (.int .i64 0) := (blk_cell BK480.out 0).trans rfl; have hcz51_1 : w50.cell? ⟨gb480, 1, none⟩ = some (.int .i64 0) := (blk_cell BK480.out 1).trans rfl; have hfz51_0 := blk_frozen BK480.out 0; have hfz51_1 := blk_frozen BK480.out 1; obtain ⟨Ao52, co52, eo52⟩ := Kd.R_slice HO477.out; subst eo52))
             repeat (go_quiet (first | ((with_reducible refine gate_store (t := 5) (p := 56) rfl ?_); (try (rw [drewN_self wr]; generalize hq_ : World.drewN wr _ = wr; have n0_ := Aside0.mk (Kd.R_at hq_ HO_5.out); have n1_ := Aside0.mk (below_at hq_ HB.out); clear hq_ HO_5 HB; have HO_5 := n0_; have HB := n1_; clear n0_ n1_; (try (have HP46 := Kd.R_putg HO_5.out ((ji22) : Int) a1)))); refine store_event (t := 5) (p := 56) (v := ?vo_w47) (w1 := (wr.setCell ⟨go25, ((ji22) : Int).toNat, none⟩ (.int .u8 a1))) ?hg ?ho ?hn ?hr ?_; (case ho => rfl); (case hg => rfl); (case hn => rfl); (case hr => first | (go_simp; done) | (go_simp; rfl)); intro w47 hw; have hg : wr.grownBy w47 (some go25) := (by rw [hw]; exact HP46.2); have hp_ : Kd.R (Kd.int .u8) 5 w47 w.heap.size (fun _ => True) (.slice (some ⟨go25, 0, none⟩) x5_2.length co25) y474 := (by rw [hw, Ny474.out]; exact HP46.1); clear HP46; have n0_ := Aside0.mk (hp_); have n1_ := Aside0.mk ((by rw [hw]; exact below_set (HB.out) GB25.out : Below w.heap.size w w47)); clear HO_5; clear HB; have HO_5 := n0_; have HB := n1_; clear n0_ n1_; clear hg hw hp_; have hcv48 := own_string (P := Tryd.prog) Tryd.underlying36 Tryd.underlying5 Tryd.underlying9 (Kd.own_of_R HO_5.out)) | (go_at_call 9; (with_reducible refine (lex_All.calls (hG := x65_7) (strOfNums y474) t475 t478 t479 _ A26.out).mono ?_); rintro e w49 ⟨v476, rfl, ho0, hb⟩; have n0_ := Aside0.mk (Kd.R_below x65_14 hb); have n1_ := Aside0.mk (Kd.R_lower ho0 (below_size x65_11)); have n2_ := Aside0.mk (below_step x65_11 hb); clear HO_5; clear HB; have HO_5 := n0_; have HO477 := n1_; have HB := n2_; clear n0_ n1_ n2_) | ((with_reducible refine gate_dst (N := 8) rfl ?_); refine box_event ?hg (N := 8) ?hd (cs := #[.int .i64 0, .int .i64 0]) (t := 25) ?hr ?_; (case hd => rfl); (case hg => rfl); (case hr => first | (go_simp; done) | (go_simp; rfl)); intro gb480 hg w50 hbox hb; have n0_ := Aside0.mk (Kd.R_below x65_14 hb); have n1_ := Aside0.mk (Kd.R_below x65_12 hb); have n2_ := Aside0.mk (below_step x65_11 hb); have n3_ := Aside0.mk (hbox); have n4_ := Aside0.mk ((by rw [hg]; exact (below_size x65_11) : w.heap.size ≤ gb480)); have n5_ := Aside0.mk ((by rw [hg]; exact (below_size x65_11) : w.heap.size ≤ gb480)); clear HO_5; clear HO477; clear HB; have HO_5 := n0_; have HO477 := n1_; have HB := n2_; have BK480 := n3_; have GW480 := n4_; have GE480 := n5_; clear n0_ n1_ n2_ n3_ n4_ n5_; clear hb hbox hg; have hcz51_0 : w50.cell? ⟨gb480, 0, none⟩ = some (.int .i64 0) := (blk_cell BK480.out 0).trans rfl; have hcz51_1 : w50.cell? ⟨gb480, 1, none⟩ = some (.int .i64 0) := (blk_cell BK480.out 1).trans rfl; have hfz51_0 := blk_frozen BK480.out 0; have hfz51_1 := blk_frozen BK480.out 1; obtain ⟨Ao52, co52, eo52⟩ := Kd.R_slice HO477.out; subst eo52)); try go_wp2_with (first | ((with_reducible refine gate_store (t := 5) (p := 56) rfl ?_); (try (rw [drewN_self wr]; generalize hq_ : World.drewN wr _ = wr; have n0_ := Aside0.mk (Kd.R_at hq_ HO_5.out); have n1_ := Aside0.mk (below_at hq_ HB.out); clear hq_ HO_5 HB; have HO_5 := n0_; have HB := n1_; clear n0_ n1_; (try (have HP46 := Kd.R_putg HO_5.out ((ji22) : Int) a1)))); refine store_event (t := 5) (p := 56) (v := ?vo_w47) (w1 := (wr.setCell ⟨go25, ((ji22) : Int).toNat, none⟩ (.int .u8 a1))) ?hg ?ho ?hn ?hr ?_; (case ho => rfl); (case hg => rfl); (case hn => rfl); (case hr => first | (go_simp; done) | (go_simp; rfl)); intro w47 hw; have hg : wr.grownBy w47 (some go25) := (by rw [hw]; exact HP46.2); have hp_ : Kd.R (Kd.int .u8) 5 w47 w.heap.size (fun _ => True) (.slice (some ⟨go25, 0, none⟩) x5_2.length co25) y474 := (by rw [hw, Ny474.out]; exact HP46.1); clear HP46; have n0_ := Aside0.mk (hp_); have n1_ := Aside0.mk ((by rw [hw]; exact below_set (HB.out) GB25.out : Below w.heap.size w w47)); clear HO_5; clear HB; have HO_5 := n0_; have HB := n1_; clear n0_ n1_; clear hg hw hp_; have hcv48 := own_string (P := Tryd.prog) Tryd.underlying36 Tryd.underlying5 Tryd.underlying9 (Kd.own_of_R HO_5.out)) | (go_at_call 9; (with_reducible refine (lex_All.calls (hG := x65_7) (strOfNums y474) t475 t478 t479 _ A26.out).mono ?_); rintro e w49 ⟨v476, rfl, ho0, hb⟩; have n0_ := Aside0.mk (Kd.R_below x65_14 hb); have n1_ := Aside0.mk (Kd.R_lower ho0 (below_size x65_11)); have n2_ := Aside0.mk (below_step x65_11 hb); clear HO_5; clear HB; have HO_5 := n0_; have HO477 := n1_; have HB := n2_; clear n0_ n1_ n2_) | ((with_reducible refine gate_dst (N := 8) rfl ?_); refine box_event ?hg (N := 8) ?hd (cs := #[.int .i64 0, .int .i64 0]) (t := 25) ?hr ?_; (case hd => rfl); (case hg => rfl); (case hr => first | (go_simp; done) | (go_simp; rfl)); intro gb480 hg w50 hbox hb; have n0_ := Aside0.mk (Kd.R_below x65_14 hb); have n1_ := Aside0.mk (Kd.R_below x65_12 hb); have n2_ := Aside0.mk (below_step x65_11 hb); have n3_ := Aside0.mk (hbox); have n4_ := Aside0.mk ((by rw [hg]; exact (below_size x65_11) : w.heap.size ≤ gb480)); have n5_ := Aside0.mk ((by rw [hg]; exact (below_size x65_11) : w.heap.size ≤ gb480)); clear HO_5; clear HO477; clear HB; have HO_5 := n0_; have HO477 := n1_; have HB := n2_; have BK480 := n3_; have GW480 := n4_; have GE480 := n5_; clear n0_ n1_ n2_ n3_ n4_ n5_; clear hb hbox hg; have hcz51_0 : w50.cell? ⟨gb480, 0, none⟩ = some (.int .i64 0) := (blk_cell BK480.out 0).trans rfl; have hcz51_1 : w50.cell? ⟨gb480, 1, none⟩ = some (.int .i64 0) := (blk_cell BK480.out 1).trans rfl; have hfz51_0 := blk_frozen BK480.out 0; have hfz51_1 := blk_frozen BK480.out 1; obtain ⟨Ao52, co52, eo52⟩ := Kd.R_slice HO477.out; subst eo52)))
             go_ret
             exact ⟨x65_9, x65_10⟩
           ·rw [if_neg c27] at H
            have c27b0 : decide (65536 < a0) = false := decide_eq_false c27
            clear c27
            replace H := Option.bind_eq_some_iff.mp H
            obtain ⟨⟨t482, t485, t486⟩, A530, H⟩ := H
            replace H : (if (t475.length : Int) = (t482.length : Int) then (casketlaw11_LexLong.j2 k2 t475 t482 (!(t478 == t485) || (!(t479 == t486)))) else (casketlaw11_LexLong.j2 k2 t475 t482 true)) = some r := H
            have A53 := Aside0.mk A530
            clear A530
            have HC54 := Aside0.mk H
            clear H
            have p25 : 0 ≤ ((ji22) : Int) := of_decide_eq_true x65_20
            have q25 : ((ji22) : Int) < ((x5_2.length : Int) : Int) := of_decide_eq_true x65_20
            obtain ⟨go25, co25, eo25, gb25, gl25, cl25, HG25⟩ := Kd.R_form HO_5.out (by omega)
            (first | cases eo25 | (injection eo25 with ea_ en_ ec_; (first | subst ea_ | (injection ea_ with ea_; subst ea_)); subst ec_; clear en_))
            have GB25 := Aside0.mk gb25
            have GG25 := Aside0.mk HG25
            clear gb25 gl25 HG25
            obtain ⟨hx25_0, hf25_0⟩ := Kd.R_celln 0 HO_5.out ((ji22) : Int) p25 q25
            replace p25 := eq_true p25
            replace q25 := eq_true q25
            have HP55 := Kd.R_putg HO_5.out ((ji22) : Int) a1
            go_upto_region 13 with (first | ((with_reducible refine gate_store (t := 5) (p := 56) rfl ?_); (try (rw [drewN_self wr]; generalize hq_ : World.drewN wr _ = wr; have n0_ := Aside0.mk (Kd.R_at hq_ HO_5.out); have n1_ := Aside0.mk (below_at hq_ HB.out); clear hq_ HO_5 HB; have HO_5 := n0_; have HB := n1_; clear n0_ n1_; (try (have HP55 := Kd.R_putg HO_5.out ((ji22) : Int) a1)))); refine store_event (t := 5) (p := 56) (v := ?vo_w56) (w1 := (wr.setCell ⟨go25, ((ji22) : Int).toNat, none⟩ (.int .u8 a1))) ?hg ?ho ?hn ?hr ?_; (case ho => rfl); (case hg => rfl); (case hn => rfl); (case hr => first | (go_simp; done) | (go_simp; rfl)); intro w56 hw; have hg : wr.grownBy w56 (some go25) := (by rw [hw]; exact HP55.2); have hp_ : Kd.R (Kd.int .u8) 5 w56 w.heap.size (fun _ => True) (.slice (some ⟨go25, 0, none⟩) x5_2.length co25) y474 := (by rw [hw, Ny474.out]; exact HP55.1); clear HP55; have n0_ := Aside0.mk (hp_); have n1_ := Aside0.mk ((by rw [hw]; exact below_set (HB.out) GB25.out : Below w.heap.size w w56)); clear HO_5; clear HB; have HO_5 := n0_; have HB := n1_; clear n0_ n1_; clear hg hw hp_; have hcv57 := own_string (P := Tryd.prog) Tryd.underlying36 Tryd.underlying5 Tryd.underlying9 (Kd.own_of_R HO_5.out)) | (go_at_call 9; (with_reducible refine (lex_All.calls (hG := x65_7) (strOfNums y474) t475 t478 t479 _ A26.out).mono ?_); rintro e w58 ⟨v476, rfl, ho0, hb⟩; have n0_ := Aside0.mk (Kd.R_below x65_14 hb); have n1_ := Aside0.mk (Kd.R_lower ho0 (below_size x65_11)); have n2_ := Aside0.mk (below_step x65_11 hb); clear HO_5; clear HB; have HO_5 := n0_; have HO477 := n1_; have HB := n2_; clear n0_ n1_ n2_) | ((with_reducible refine gate_dst (N := 8) rfl ?_); refine box_event ?hg (N := 8) ?hd (cs := #[.int .i64 0, .int .i64 0]) (t := 25) ?hr ?_; (case hd => rfl); (case hg => rfl); (case hr => first | (go_simp; done) | (go_simp; rfl)); intro gb480 hg w59 hbox hb; have n0_ := Aside0.mk (Kd.R_below x65_14 hb); have n1_ := Aside0.mk (Kd.R_below x65_12 hb); have n2_ := Aside0.mk (below_step x65_11 hb); have n3_ := Aside0.mk (hbox); have n4_ := Aside0.mk ((by rw [hg]; exact (below_size x65_11) : w.heap.size ≤ gb480)); have n5_ := Aside0.mk ((by rw [hg]; exact (below_size x65_11) : w.heap.size ≤ gb480)); clear HO_5; clear HO477; clear HB; have HO_5 := n0_; have HO477 := n1_; have HB := n2_; have BK480 := n3_; have GW480 := n4_; have GE480 := n5_; clear n0_ n1_ n2_ n3_ n4_ n5_; clear hb hbox hg; have hcz60_0 : w59.cell? ⟨gb480, 0, none⟩ = some (.int .i64 0) := (blk_cell BK480.out 0).trans rfl; have hcz60_1 : w59.cell? ⟨gb480, 1, none⟩ = some (.int .i64 0) := (blk_cell BK480.out 1).trans rfl; have hfz60_0 := blk_frozen BK480.out 0; have hfz60_1 := blk_frozen BK480.out 1; have hcv61 := own_string (P := Tryd.prog) Tryd.underlying36 Tryd.underlying5 Tryd.underlying9 (Kd.own_of_R HO_5.out); have hcv61b := own_string (P := Tryd.prog) Tryd.underlying36 Tryd.underlying5 Tryd.underlying9 (Kd.own_of_R (Kd.R_set (Kd.R_set HO_5.out BK480.out x65_19 0 (.int .i64 t478)) (blk_set BK480.out 0 (.int .i64 t478)) x65_19 1 (.int .i64 t479)))) | (go_at_call 8; (with_reducible refine (casketref11_All.calls k2 (strOfNums y474) t482 t485 t486 _ A53.out).mono ?_); rintro e w62 ⟨v483, rfl, ho0, hb⟩; have n0_ := Aside0.mk (Kd.R_below x65_6 hb); have n1_ := Aside0.mk (Kd.R_elder' x65_3 (Kd.R_base ho0) hb); have n2_ := Aside0.mk (Kd.R_lower (Kd.R_new' ho0 (Kd.R_lt x65_3)) (below_size x65_10)); have n3_ := Aside0.mk (blk_below (g := gb480) (o := .cells #[.int .i64 t478, .int .i64 t479] 25 (0, 0)) x65_0 hb); have n4_ := Aside0.mk (below_step x65_10 hb); clear HO_5; clear HO477; clear BK480; clear HB; have HO_5 := n0_; have HO477 := n1_; have HO484 := n2_; have BK480 := n3_; have HB := n4_; clear n0_ n1_ n2_ n3_ n4_) | ((with_reducible refine gate_dst (N := 10) rfl ?_); refine box_event ?hg (N := 10) ?hd (cs := #[.int .i64 0, .int .i64 0]) (t := 25) ?hr ?_; (case hd => rfl); (case hg => rfl); (case hr => first | (go_simp; done) | (go_simp; rfl)); intro gb487 hg w63 hbox hb; have n0_ := Aside0.mk (Kd.R_below x65_14 hb); have n1_ := Aside0.mk (Kd.R_below x65_12 hb); have n2_ := Aside0.mk (Kd.R_below x65_13 hb); have n3_ := Aside0.mk (blk_below (g := gb480) (o := .cells #[.int .i64 t478, .int .i64 t479] 25 (0, 0)) x65_17 hb); have n4_ := Aside0.mk (below_step x65_10 hb); have n5_ := Aside0.mk (hbox); have n6_ := Aside0.mk ((by rw [hg]; exact (below_size x65_10) : w.heap.size ≤ gb487)); have n7_ := Aside0.mk ((by rw [hg]; exact (below_size x65_10) : w.heap.size ≤ gb487)); have n8_ := Aside0.mk ((by rw [hg]; exact Nat.ne_of_lt (blk_lt (g := gb480) (o := .cells #[.int .i64 t478, .int .i64 t479] 25 (0, 0)) x65_17) : gb480 ≠ gb487)); have n9_ := Aside0.mk ((by rw [hg]; exact Nat.ne_of_gt (blk_lt (g := gb480) (o := .cells #[.int .i64 t478, .int .i64 t479] 25 (0, 0)) x65_17) : gb487 ≠ gb480)); clear HO_5; clear HO477; clear HO484; clear BK480; clear HB; have HO_5 := n0_; have HO477 := n1_; have HO484 := n2_; have BK480 := n3_; have HB := n4_; have BK487 := n5_; have GW487 := n6_; have GE487 := n7_; have NB480_487 := n8_; have NB487_480 := n9_; clear n0_ n1_ n2_ n3_ n4_ n5_ n6_ n7_ n8_ n9_; clear hb hbox hg; have hnb64 := NB487_480.out; have hnc64 := NB480_487.out; have hcz65_0 : w63.cell? ⟨gb487, 0, none⟩ = some (.int .i64 0) := (blk_cell BK487.out 0).trans rfl; have hcz65_1 : w63.cell? ⟨gb487, 1, none⟩ = some (.int .i64 0) := (blk_cell BK487.out 1).trans rfl; have hfz65_0 := blk_frozen BK487.out 0; have hfz65_1 := blk_frozen BK487.out 1))
            repeat (go_quiet (first | ((with_reducible refine gate_store (t := 5) (p := 56) rfl ?_); (try (rw [drewN_self wr]; generalize hq_ : World.drewN wr _ = wr; have n0_ := Aside0.mk (Kd.R_at hq_ HO_5.out); have n1_ := Aside0.mk (below_at hq_ HB.out); clear hq_ HO_5 HB; have HO_5 := n0_; have HB := n1_; clear n0_ n1_; (try (have HP55 := Kd.R_putg HO_5.out ((ji22) : Int) a1)))); refine store_event (t := 5) (p := 56) (v := ?vo_w56) (w1 := (wr.setCell ⟨go25, ((ji22) : Int).toNat, none⟩ (.int .u8 a1))) ?hg ?ho ?hn ?hr ?_; (case ho => rfl); (case hg => rfl); (case hn => rfl); (case hr => first | (go_simp; done) | (go_simp; rfl)); intro w56 hw; have hg : wr.grownBy w56 (some go25) := (by rw [hw]; exact HP55.2); have hp_ : Kd.R (Kd.int .u8) 5 w56 w.heap.size (fun _ => True) (.slice (some ⟨go25, 0, none⟩) x5_2.length co25) y474 := (by rw [hw, Ny474.out]; exact HP55.1); clear HP55; have n0_ := Aside0.mk (hp_); have n1_ := Aside0.mk ((by rw [hw]; exact below_set (HB.out) GB25.out : Below w.heap.size w w56)); clear HO_5; clear HB; have HO_5 := n0_; have HB := n1_; clear n0_ n1_; clear hg hw hp_; have hcv57 := own_string (P := Tryd.prog) Tryd.underlying36 Tryd.underlying5 Tryd.underlying9 (Kd.own_of_R HO_5.out)) | (go_at_call 9; (with_reducible refine (lex_All.calls (hG := x65_7) (strOfNums y474) t475 t478 t479 _ A26.out).mono ?_); rintro e w58 ⟨v476, rfl, ho0, hb⟩; have n0_ := Aside0.mk (Kd.R_below x65_14 hb); have n1_ := Aside0.mk (Kd.R_lower ho0 (below_size x65_11)); have n2_ := Aside0.mk (below_step x65_11 hb); clear HO_5; clear HB; have HO_5 := n0_; have HO477 := n1_; have HB := n2_; clear n0_ n1_ n2_) | ((with_reducible refine gate_dst (N := 8) rfl ?_); refine box_event ?hg (N := 8) ?hd (cs := #[.int .i64 0, .int .i64 0]) (t := 25) ?hr ?_; (case hd => rfl); (case hg => rfl); (case hr => first | (go_simp; done) | (go_simp; rfl)); intro gb480 hg w59 hbox hb; have n0_ := Aside0.mk (Kd.R_below x65_14 hb); have n1_ := Aside0.mk (Kd.R_below x65_12 hb); have n2_ := Aside0.mk (below_step x65_11 hb); have n3_ := Aside0.mk (hbox); have n4_ := Aside0.mk ((by rw [hg]; exact (below_size x65_11) : w.heap.size ≤ gb480)); have n5_ := Aside0.mk ((by rw [hg]; exact (below_size x65_11) : w.heap.size ≤ gb480)); clear HO_5; clear HO477; clear HB; have HO_5 := n0_; have HO477 := n1_; have HB := n2_; have BK480 := n3_; have GW480 := n4_; have GE480 := n5_; clear n0_ n1_ n2_ n3_ n4_ n5_; clear hb hbox hg; have hcz60_0 : w59.cell? ⟨gb480, 0, none⟩ = some (.int .i64 0) := (blk_cell BK480.out 0).trans rfl; have hcz60_1 : w59.cell? ⟨gb480, 1, none⟩ = some (.int .i64 0) := (blk_cell BK480.out 1).trans rfl; have hfz60_0 := blk_frozen BK480.out 0; have hfz60_1 := blk_frozen BK480.out 1; have hcv61 := own_string (P := Tryd.prog) Tryd.underlying36 Tryd.underlying5 Tryd.underlying9 (Kd.own_of_R HO_5.out); have hcv61b := own_string (P := Tryd.prog) Tryd.underlying36 Tryd.underlying5 Tryd.underlying9 (Kd.own_of_R (Kd.R_set (Kd.R_set HO_5.out BK480.out x65_19 0 (.int .i64 t478)) (blk_set BK480.out 0 (.int .i64 t478)) x65_19 1 (.int .i64 t479)))) | (go_at_call 8; (with_reducible refine (casketref11_All.calls k2 (strOfNums y474) t482 t485 t486 _ A53.out).mono ?_); rintro e w62 ⟨v483, rfl, ho0, hb⟩; have n0_ := Aside0.mk (Kd.R_below x65_6 hb); have n1_ := Aside0.mk (Kd.R_elder' x65_3 (Kd.R_base ho0) hb); have n2_ := Aside0.mk (Kd.R_lower (Kd.R_new' ho0 (Kd.R_lt x65_3)) (below_size x65_10)); have n3_ := Aside0.mk (blk_below (g := gb480) (o := .cells #[.int .i64 t478, .int .i64 t479] 25 (0, 0)) x65_0 hb); have n4_ := Aside0.mk (below_step x65_10 hb); clear HO_5; clear HO477; clear BK480; clear HB; have HO_5 := n0_; have HO477 := n1_; have HO484 := n2_; have BK480 := n3_; have HB := n4_; clear n0_ n1_ n2_ n3_ n4_) | ((with_reducible refine gate_dst (N := 10) rfl ?_); refine box_event ?hg (N := 10) ?hd (cs := #[.int .i64 0, .int .i64 0]) (t := 25) ?hr ?_; (case hd => rfl); (case hg => rfl); (case hr => first | (go_simp; done) | (go_simp; rfl)); intro gb487 hg w63 hbox hb; have n0_ := Aside0.mk (Kd.R_below x65_14 hb); have n1_ := Aside0.mk (Kd.R_below x65_12 hb); have n2_ := Aside0.mk (Kd.R_below x65_13 hb); have n3_ := Aside0.mk (blk_below (g := gb480) (o := .cells #[.int .i64 t478, .int .i64 t479] 25 (0, 0)) x65_17 hb); have n4_ := Aside0.mk (below_step x65_10 hb); have n5_ := Aside0.mk (hbox); have n6_ := Aside0.mk ((by rw [hg]; exact (below_size x65_10) : w.heap.size ≤ gb487)); have n7_ := Aside0.mk ((by rw [hg]; exact (below_size x65_10) : w.heap.size ≤ gb487)); have n8_ := Aside0.mk ((by rw [hg]; exact Nat.ne_of_lt (blk_lt (g := gb480) (o := .cells #[.int .i64 t478, .int .i64 t479] 25 (0, 0)) x65_17) : gb480 ≠ gb487)); have n9_ := Aside0.mk ((by rw [hg]; exact Nat.ne_of_gt (blk_lt (g := gb480) (o := .cells #[.int .i64 t478, .int .i64 t479] 25 (0, 0)) x65_17) : gb487 ≠ gb480)); clear HO_5; clear HO477; clear HO484; clear BK480; clear HB; have HO_5 := n0_; have HO477 := n1_; have HO484 := n2_; have BK480 := n3_; have HB := n4_; have BK487 := n5_; have GW487 := n6_; have GE487 := n7_; have NB480_487 := n8_; have NB487_480 := n9_; clear n0_ n1_ n2_ n3_ n4_ n5_ n6_ n7_ n8_ n9_; clear hb hbox hg; have hnb64 := NB487_480.out; have hnc64 := NB480_487.out; have hcz65_0 : w63.cell? ⟨gb487, 0, none⟩ = some (.int .i64 0) := (blk_cell BK487.out 0).trans rfl; have hcz65_1 : w63.cell? ⟨gb487, 1, none⟩ = some (.int .i64 0) := (blk_cell BK487.out 1).trans rfl; have hfz65_0 := blk_frozen BK487.out 0; have hfz65_1 := blk_frozen BK487.out 1)); go_upto_region 13 with (first | ((with_reducible refine gate_store (t := 5) (p := 56) rfl ?_); (try (rw [drewN_self wr]; generalize hq_ : World.drewN wr _ = wr; have n0_ := Aside0.mk (Kd.R_at hq_ HO_5.out); have n1_ := Aside0.mk (below_at hq_ HB.out); clear hq_ HO_5 HB; have HO_5 := n0_; have HB := n1_; clear n0_ n1_; (try (have HP55 := Kd.R_putg HO_5.out ((ji22) : Int) a1)))); refine store_event (t := 5) (p := 56) (v := ?vo_w56) (w1 := (wr.setCell ⟨go25, ((ji22) : Int).toNat, none⟩ (.int .u8 a1))) ?hg ?ho ?hn ?hr ?_; (case ho => rfl); (case hg => rfl); (case hn => rfl); (case hr => first | (go_simp; done) | (go_simp; rfl)); intro w56 hw; have hg : wr.grownBy w56 (some go25) := (by rw [hw]; exact HP55.2); have hp_ : Kd.R (Kd.int .u8) 5 w56 w.heap.size (fun _ => True) (.slice (some ⟨go25, 0, none⟩) x5_2.length co25) y474 := (by rw [hw, Ny474.out]; exact HP55.1); clear HP55; have n0_ := Aside0.mk (hp_); have n1_ := Aside0.mk ((by rw [hw]; exact below_set (HB.out) GB25.out : Below w.heap.size w w56)); clear HO_5; clear HB; have HO_5 := n0_; have HB := n1_; clear n0_ n1_; clear hg hw hp_; have hcv57 := own_string (P := Tryd.prog) Tryd.underlying36 Tryd.underlying5 Tryd.underlying9 (Kd.own_of_R HO_5.out)) | (go_at_call 9; (with_reducible refine (lex_All.calls (hG := x65_7) (strOfNums y474) t475 t478 t479 _ A26.out).mono ?_); rintro e w58 ⟨v476, rfl, ho0, hb⟩; have n0_ := Aside0.mk (Kd.R_below x65_14 hb); have n1_ := Aside0.mk (Kd.R_lower ho0 (below_size x65_11)); have n2_ := Aside0.mk (below_step x65_11 hb); clear HO_5; clear HB; have HO_5 := n0_; have HO477 := n1_; have HB := n2_; clear n0_ n1_ n2_) | ((with_reducible refine gate_dst (N := 8) rfl ?_); refine box_event ?hg (N := 8) ?hd (cs := #[.int .i64 0, .int .i64 0]) (t := 25) ?hr ?_; (case hd => rfl); (case hg => rfl); (case hr => first | (go_simp; done) | (go_simp; rfl)); intro gb480 hg w59 hbox hb; have n0_ := Aside0.mk (Kd.R_below x65_14 hb); have n1_ := Aside0.mk (Kd.R_below x65_12 hb); have n2_ := Aside0.mk (below_step x65_11 hb); have n3_ := Aside0.mk (hbox); have n4_ := Aside0.mk ((by rw [hg]; exact (below_size x65_11) : w.heap.size ≤ gb480)); have n5_ := Aside0.mk ((by rw [hg]; exact (below_size x65_11) : w.heap.size ≤ gb480)); clear HO_5; clear HO477; clear HB; have HO_5 := n0_; have HO477 := n1_; have HB := n2_; have BK480 := n3_; have GW480 := n4_; have GE480 := n5_; clear n0_ n1_ n2_ n3_ n4_ n5_; clear hb hbox hg; have hcz60_0 : w59.cell? ⟨gb480, 0, none⟩ = some (.int .i64 0) := (blk_cell BK480.out 0).trans rfl; have hcz60_1 : w59.cell? ⟨gb480, 1, none⟩ = some (.int .i64 0) := (blk_cell BK480.out 1).trans rfl; have hfz60_0 := blk_frozen BK480.out 0; have hfz60_1 := blk_frozen BK480.out 1; have hcv61 := own_string (P := Tryd.prog) Tryd.underlying36 Tryd.underlying5 Tryd.underlying9 (Kd.own_of_R HO_5.out); have hcv61b := own_string (P := Tryd.prog) Tryd.underlying36 Tryd.underlying5 Tryd.underlying9 (Kd.own_of_R (Kd.R_set (Kd.R_set HO_5.out BK480.out x65_19 0 (.int .i64 t478)) (blk_set BK480.out 0 (.int .i64 t478)) x65_19 1 (.int .i64 t479)))) | (go_at_call 8; (with_reducible refine (casketref11_All.calls k2 (strOfNums y474) t482 t485 t486 _ A53.out).mono ?_); rintro e w62 ⟨v483, rfl, ho0, hb⟩; have n0_ := Aside0.mk (Kd.R_below x65_6 hb); have n1_ := Aside0.mk (Kd.R_elder' x65_3 (Kd.R_base ho0) hb); have n2_ := Aside0.mk (Kd.R_lower (Kd.R_new' ho0 (Kd.R_lt x65_3)) (below_size x65_10)); have n3_ := Aside0.mk (blk_below (g := gb480) (o := .cells #[.int .i64 t478, .int .i64 t479] 25 (0, 0)) x65_0 hb); have n4_ := Aside0.mk (below_step x65_10 hb); clear HO_5; clear HO477; clear BK480; clear HB; have HO_5 := n0_; have HO477 := n1_; have HO484 := n2_; have BK480 := n3_; have HB := n4_; clear n0_ n1_ n2_ n3_ n4_) | ((with_reducible refine gate_dst (N := 10) rfl ?_); refine box_event ?hg (N := 10) ?hd (cs := #[.int .i64 0, .int .i64 0]) (t := 25) ?hr ?_; (case hd => rfl); (case hg => rfl); (case hr => first | (go_simp; done) | (go_simp; rfl)); intro gb487 hg w63 hbox hb; have n0_ := Aside0.mk (Kd.R_below x65_14 hb); have n1_ := Aside0.mk (Kd.R_below x65_12 hb); have n2_ := Aside0.mk (Kd.R_below x65_13 hb); have n3_ := Aside0.mk (blk_below (g := gb480) (o := .cells #[.int .i64 t478, .int .i64 t479] 25 (0, 0)) x65_17 hb); have n4_ := Aside0.mk (below_step x65_10 hb); have n5_ := Aside0.mk (hbox); have n6_ := Aside0.mk ((by rw [hg]; exact (below_size x65_10) : w.heap.size ≤ gb487)); have n7_ := Aside0.mk ((by rw [hg]; exact (below_size x65_10) : w.heap.size ≤ gb487)); have n8_ := Aside0.mk ((by rw [hg]; exact Nat.ne_of_lt (blk_lt (g := gb480) (o := .cells #[.int .i64 t478, .int .i64 t479] 25 (0, 0)) x65_17) : gb480 ≠ gb487)); have n9_ := Aside0.mk ((by rw [hg]; exact Nat.ne_of_gt (blk_lt (g := gb480) (o := .cells #[.int .i64 t478, .int .i64 t479] 25 (0, 0)) x65_17) : gb487 ≠ gb480)); clear HO_5; clear HO477; clear HO484; clear BK480; clear HB; have HO_5 := n0_; have HO477 := n1_; have HO484 := n2_; have BK480 := n3_; have HB := n4_; have BK487 := n5_; have GW487 := n6_; have GE487 := n7_; have NB480_487 := n8_; have NB487_480 := n9_; clear n0_ n1_ n2_ n3_ n4_ n5_ n6_ n7_ n8_ n9_; clear hb hbox hg; have hnb64 := NB487_480.out; have hnc64 := NB480_487.out; have hcz65_0 : w63.cell? ⟨gb487, 0, none⟩ = some (.int .i64 0) := (blk_cell BK487.out 0).trans rfl; have hcz65_1 : w63.cell? ⟨gb487, 1, none⟩ = some (.int .i64 0) := (blk_cell BK487.out 1).trans rfl; have hfz65_0 := blk_frozen BK487.out 0; have hfz65_1 := blk_frozen BK487.out 1)))
            (try simp only [Act.put, List.setIfInBounds_toArray, List.set_cons_zero, List.set_cons_succ])
            go_cut [91] (fun v91 wc => ∃ (kq : Nat) (x91_53 : Bool), v91 = .bool x91_53 ∧ Aside0 (casketlaw11_LexLong.j2 kq t475 t482 x91_53 = some r) ∧ Aside0 (kq ≤ k2) ∧ Aside0 (Kd.R k30 30 wc w.heap.size (fun k_ => some k_ ≠ (v483 : Value).ownBlock) v476 t475) ∧ Aside0 (Kd.R k30 30 wc w.heap.size (fun k_ => some k_ ≠ (v476 : Value).ownBlock) v483 t482) ∧ Aside0 (wc.heap[gb480]? = some (.cells #[.int .i64 t478, .int .i64 t479] 25 (0, 0))) ∧ Aside0 (wc.heap[gb487]? = some (.cells #[.int .i64 t485, .int .i64 t486] 25 (0, 0))) ∧ Aside0 (Below w.heap.size w wc))
            case first =>
             have H := HC54.out
             clear HC54
             by_cases c66 : (t475.length : Int) = (t482.length : Int)
             ·rw [if_pos c66] at H
              have c66b0 : ((t475.length : Int) == (t482.length : Int)) = true := beq_iff_eq.mpr c66
              have c66b1 : ((t475.length : Int) != (t482.length : Int)) = false := bne_eq_false_iff_eq.mpr c66
              have c66b2 : (t475.length == t482.length) = true := by first | simpa using c66 | (simp at c66 ⊢; omega)
              clear c66
              (first | rw [c66b0] | (simp only [i64_w, i32_w]; rw [c66b0]) | skip)
              have H' := Aside0.mk H
              clear H
              obtain ⟨Ao67, co67, eo67⟩ := Kd.R_slice HO477.out
              subst eo67
              obtain ⟨Ao68, co68, eo68⟩ := Kd.R_slice HO484.out
              subst eo68
              have hnb69 := NB480_487.out
              have hnc69 := NB487_480.out
              have hcz70_0 : w63.cell? ⟨gb480, 0, none⟩ = some (.int .i64 t478) := (blk_cell BK480.out 0).trans rfl
              have hcz70_1 : w63.cell? ⟨gb480, 1, none⟩ = some (.int .i64 t479) := (blk_cell BK480.out 1).trans rfl
              have hfz70_0 := blk_frozen BK480.out 0
              have hfz70_1 := blk_frozen BK480.out 1
              have hcz71_0 : w63.cell? ⟨gb487, 0, none⟩ = some (.int .i64 0) := (blk_cell BK487.out 0).trans rfl
              have hcz71_1 : w63.cell? ⟨gb487, 1, none⟩ = some (.int .i64 0) := (blk_cell BK487.out 1).trans rfl
              have hfz71_0 := blk_frozen BK487.out 0
              have hfz71_1 := blk_frozen BK487.out 1
              go_wp2
              repeat (go_quiet (fail); try go_wp2)
              go_meet
              case rel => exact ⟨_, ((!(t478 == t485) || (!(t479 == t486)))), x65_21, H', ⟨by have := HJ2.out; have := HK2.out; first | omega | exact Nat.le_refl _⟩, ⟨x65_4⟩, ⟨x65_5⟩, ⟨x65_2⟩, ⟨x65_1⟩, ⟨x65_8⟩⟩
             ·rw [if_neg c66] at H
              have c66b0 : ((t475.length : Int) == (t482.length : Int)) = false := beq_eq_false_iff_ne.mpr c66
              have c66b1 : ((t475.length : Int) != (t482.length : Int)) = true := bne_iff_ne.mpr c66
              have c66b2 : (t475.length == t482.length) = false := by first | simpa using c66 | (simp at c66 ⊢; omega)
              (first | rw [c66b0] | (simp only [i64_w, i32_w]; rw [c66b0]) | skip)
              have H' := Aside0.mk H
              clear H
              obtain ⟨Ao72, co72, eo72⟩ := Kd.R_slice HO477.out
              subst eo72
              obtain ⟨Ao73, co73, eo73⟩ := Kd.R_slice HO484.out
              subst eo73
              go_wp2
              repeat (go_quiet (fail); try go_wp2)
              go_meet
              case rel => exact ⟨_, (true), x65_21, H', ⟨by have := HJ2.out; have := HK2.out; first | omega | exact Nat.le_refl _⟩, ⟨x65_4⟩, ⟨x65_5⟩, ⟨x65_2⟩, ⟨x65_1⟩, ⟨x65_8⟩⟩
            case rest =>
             clear HC54
             obtain ⟨kq, x91_53, rfl, HA, HJ53, HO_7, HO_9, BK480, BK487, HB⟩ := hcut
             cases kq with
             | zero => exact absurd HA.out (by simp [casketlaw11_LexLong.j2])
             | succ kj53 =>
              have H := HA.out
              clear HA
              simp only [casketlaw11_LexLong.j2] at H
              by_cases c74 : x91_53 = true
              ·subst c74
               have H1 : (some false) = some r := by rw [if_pos rfl] at H; exact H
               clear H
               have H := H1
               clear H1
               obtain rfl := Option.some.inj H
               go_wp2
               repeat (go_quiet (fail); try go_wp2)
               go_ret
               exact ⟨x65_9, x65_8⟩
              ·replace c74 := Bool.eq_false_iff.mpr c74
               subst c74
               have H1 : (casketlaw11_LexLong.l1 kj53 t475 t482 0) = some r := by rw [if_neg (show ¬ (false = true) by decide)] at H; exact H
               clear H
               have H := H1
               clear H1
               have H' := Aside0.mk H
               clear H
               go_wp2
               repeat (go_quiet (fail); try go_wp2)
               go_loopg [11] kj53 (fun kq v11 w' => ∃ (x11_4 : Int), v11 = .int .i64 x11_4 ∧ Aside0 (casketlaw11_LexLong.l1 kq t475 t482 x11_4 = some r) ∧ Aside0 (kq ≤ kj53) ∧ Aside0 (Kd.R k30 30 w' w.heap.size (fun k_ => some k_ ≠ (v483 : Value).ownBlock) v476 t475) ∧ Aside0 (Kd.R k30 30 w' w.heap.size (fun k_ => some k_ ≠ (v476 : Value).ownBlock) v483 t482) ∧ Aside0 (w'.heap[gb480]? = some (.cells #[.int .i64 t478, .int .i64 t479] 25 (0, 0))) ∧ Aside0 (w'.heap[gb487]? = some (.cells #[.int .i64 t485, .int .i64 t486] 25 (0, 0))) ∧ Aside0 (Below w.heap.size w w'))
               case atStart => exact ⟨(0), x65_21, H', ⟨Nat.le_refl _⟩, ⟨x65_15⟩, ⟨x65_16⟩, ⟨x65_17⟩, ⟨x65_18⟩, ⟨x65_8⟩⟩
               case round =>
                clear H'
                obtain ⟨x11_4, rfl, HA, HK4, HO_7, HO_9, BK480, BK487, HB⟩ := hrel
                cases gk with
                | zero => exact absurd HA.out (by simp [casketlaw11_LexLong.l1])
                | succ k4 =>
                 have H := HA.out
                 clear HA
                 simp only [casketlaw11_LexLong.l1] at H
                 by_cases c75 : x11_4 < (t475.length : Int)
                 ·rw [if_pos c75] at H
                  have c75b0 : decide (x11_4 < (t475.length : Int)) = true := decide_eq_true c75
                  clear c75
                  by_cases c76 : 0 ≤ x11_4
                  ·rw [if_pos c76] at H
                   have c76b0 : decide (0 ≤ x11_4) = true := decide_eq_true c76
                   clear c76
                   by_cases c77 : x11_4 < (t482.length : Int)
                   ·rw [if_pos c77] at H
                    have c77b0 : decide (x11_4 < (t482.length : Int)) = true := decide_eq_true c77
                    clear c77
                    by_cases c78 : (!(((rd_T30 t475 x11_4).f0) == ((rd_T30 t482 x11_4).f0)) || (!(((rd_T30 t475 x11_4).f1) == ((rd_T30 t482 x11_4).f1)) || (!((((rd_T30 t475 x11_4).f2).toList) == (((rd_T30 t482 x11_4).f2).toList)) || (!(((rd_T30 t475 x11_4).f3) == ((rd_T30 t482 x11_4).f3)) || (!(((rd_T30 t475 x11_4).f4) == ((rd_T30 t482 x11_4).f4))))))) = true
                    ·rw [if_pos c78] at H
                     have c78b0 : (!(((rd_T30 t475 x11_4).f0) == ((rd_T30 t482 x11_4).f0)) || (!(((rd_T30 t475 x11_4).f1) == ((rd_T30 t482 x11_4).f1)) || (!((((rd_T30 t475 x11_4).f2).toList) == (((rd_T30 t482 x11_4).f2).toList)) || (!(((rd_T30 t475 x11_4).f3) == ((rd_T30 t482 x11_4).f3)) || (!(((rd_T30 t475 x11_4).f4) == ((rd_T30 t482 x11_4).f4))))))) = true := c78
                     clear c78
                     obtain rfl := Option.some.inj H
                     obtain ⟨Ao79, co79, eo79⟩ := Kd.R_slice HO_7.out
                     subst eo79
                     have p488 : 0 ≤ (x11_4 : Int) := of_decide_eq_true x65_20
                     have q488 : x11_4 < (t475.length : Int) := of_decide_eq_true x65_20
                     obtain ⟨ad488, e488, hx488_0, hx488_1, hx488_2, hx488_3, hx488_4⟩ := at_T30 (Kd.R_reads' HO_7.out).2.2 x11_4 p488 q488
                     cases e488
                     replace p488 := eq_true p488
                     replace q488 := eq_true q488
                     obtain ⟨Ao80, co80, eo80⟩ := Kd.R_slice HO_9.out
                     subst eo80
                     have p489 : 0 ≤ (x11_4 : Int) := of_decide_eq_true x65_20
                     have q489 : x11_4 < (t482.length : Int) := of_decide_eq_true x65_20
                     obtain ⟨ad489, e489, hx489_0, hx489_1, hx489_2, hx489_3, hx489_4⟩ := at_T30 (Kd.R_reads' HO_9.out).2.2 x11_4 p489 q489
                     cases e489
                     replace p489 := eq_true p489
                     replace q489 := eq_true q489
                     go_wp2
                     repeat (go_quiet (fail); try go_wp2)
                     go_ret
                     exact ⟨x65_9, x65_8⟩
                    ·rw [if_neg c78] at H
                     have c78b0 : (!(((rd_T30 t475 x11_4).f0) == ((rd_T30 t482 x11_4).f0)) || (!(((rd_T30 t475 x11_4).f1) == ((rd_T30 t482 x11_4).f1)) || (!((((rd_T30 t475 x11_4).f2).toList) == (((rd_T30 t482 x11_4).f2).toList)) || (!(((rd_T30 t475 x11_4).f3) == ((rd_T30 t482 x11_4).f3)) || (!(((rd_T30 t475 x11_4).f4) == ((rd_T30 t482 x11_4).f4))))))) = false := by simpa using c78
                     clear c78
                     have H' := Aside0.mk H
                     clear H
                     obtain ⟨Ao81, co81, eo81⟩ := Kd.R_slice HO_7.out
                     subst eo81
                     have p488 : 0 ≤ (x11_4 : Int) := of_decide_eq_true x65_20
                     have q488 : x11_4 < (t475.length : Int) := of_decide_eq_true x65_20
                     obtain ⟨ad488, e488, hx488_0, hx488_1, hx488_2, hx488_3, hx488_4⟩ := at_T30 (Kd.R_reads' HO_7.out).2.2 x11_4 p488 q488
                     cases e488
                     replace p488 := eq_true p488
                     replace q488 := eq_true q488
                     obtain ⟨Ao82, co82, eo82⟩ := Kd.R_slice HO_9.out
                     subst eo82
                     have p489 : 0 ≤ (x11_4 : Int) := of_decide_eq_true x65_20
                     have q489 : x11_4 < (t482.length : Int) := of_decide_eq_true x65_20
                     obtain ⟨ad489, e489, hx489_0, hx489_1, hx489_2, hx489_3, hx489_4⟩ := at_T30 (Kd.R_reads' HO_9.out).2.2 x11_4 p489 q489
                     cases e489
                     replace p489 := eq_true p489
                     replace q489 := eq_true q489
                     go_wp2
                     repeat (go_quiet (fail); try go_wp2)
                     go_roundg k4
                     case measure => have := HJ2.out; have := HK2.out; have := HJ53.out; have := HK4.out; omega
                     case rel => exact ⟨(wrap64 (x11_4 + 1)), x65_21, H', ⟨by have := HJ2.out; have := HK2.out; have := HJ53.out; have := HK4.out; omega⟩, ⟨x65_15⟩, ⟨x65_16⟩, ⟨x65_17⟩, ⟨x65_18⟩, ⟨x65_8⟩⟩
                   ·rw [if_neg c77] at H
                    exact absurd H (by simp)
                  ·rw [if_neg c76] at H
                   exact absurd H (by simp)
                 ·rw [if_neg c75] at H
                  have c75b0 : decide (x11_4 < (t475.length : Int)) = false := decide_eq_false c75
                  clear c75
                  replace H := Option.bind_eq_some_iff.mp H
                  obtain ⟨t490, A830, H⟩ := H
                  replace H : (some t490) = some r := H
                  have A83 := Aside0.mk A830
                  clear A830
                  obtain rfl := Option.some.inj H
                  obtain ⟨Ao84, co84, eo84⟩ := Kd.R_slice HO_7.out
                  subst eo84
                  go_wp2_with (first | (go_at_call 12; (with_reducible refine (casketlaw11_awake.calls (hG := x65_7)  t490 _ A83.out).mono ?_); rintro e w85 ⟨rfl, hb⟩; have n0_ := Aside0.mk (Kd.R_below x65_15 hb); have n1_ := Aside0.mk (Kd.R_below x65_16 hb); have n2_ := Aside0.mk (blk_below (g := gb480) (o := .cells #[.int .i64 t478, .int .i64 t479] 25 (0, 0)) x65_17 hb); have n3_ := Aside0.mk (blk_below (g := gb487) (o := .cells #[.int .i64 t485, .int .i64 t486] 25 (0, 0)) x65_18 hb); have n4_ := Aside0.mk (below_step x65_8 hb); clear HO_7; clear HO_9; clear BK480; clear BK487; clear HB; have HO_7 := n0_; have HO_9 := n1_; have BK480 := n2_; have BK487 := n3_; have HB := n4_; clear n0_ n1_ n2_ n3_ n4_))
                  repeat (go_quiet (first | (go_at_call 12; (with_reducible refine (casketlaw11_awake.calls (hG := x65_7)  t490 _ A83.out).mono ?_); rintro e w85 ⟨rfl, hb⟩; have n0_ := Aside0.mk (Kd.R_below x65_15 hb); have n1_ := Aside0.mk (Kd.R_below x65_16 hb); have n2_ := Aside0.mk (blk_below (g := gb480) (o := .cells #[.int .i64 t478, .int .i64 t479] 25 (0, 0)) x65_17 hb); have n3_ := Aside0.mk (blk_below (g := gb487) (o := .cells #[.int .i64 t485, .int .i64 t486] 25 (0, 0)) x65_18 hb); have n4_ := Aside0.mk (below_step x65_8 hb); clear HO_7; clear HO_9; clear BK480; clear BK487; clear HB; have HO_7 := n0_; have HO_9 := n1_; have BK480 := n2_; have BK487 := n3_; have HB := n4_; clear n0_ n1_ n2_ n3_ n4_)); try go_wp2_with (first | (go_at_call 12; (with_reducible refine (casketlaw11_awake.calls (hG := x65_7)  t490 _ A83.out).mono ?_); rintro e w85 ⟨rfl, hb⟩; have n0_ := Aside0.mk (Kd.R_below x65_15 hb); have n1_ := Aside0.mk (Kd.R_below x65_16 hb); have n2_ := Aside0.mk (blk_below (g := gb480) (o := .cells #[.int .i64 t478, .int .i64 t479] 25 (0, 0)) x65_17 hb); have n3_ := Aside0.mk (blk_below (g := gb487) (o := .cells #[.int .i64 t485, .int .i64 t486] 25 (0, 0)) x65_18 hb); have n4_ := Aside0.mk (below_step x65_8 hb); clear HO_7; clear HO_9; clear BK480; clear BK487; clear HB; have HO_7 := n0_; have HO_9 := n1_; have BK480 := n2_; have BK487 := n3_; have HB := n4_; clear n0_ n1_ n2_ n3_ n4_)))
                  go_ret
                  exact ⟨x65_9, x65_8⟩
          ·rw [if_neg c24] at H
           exact absurd H (by simp)
         ·rw [if_neg c23] at H
          exact absurd H (by simp)
     ·rw [if_neg c13] at H
      exact absurd H (by simp)
    ·rw [if_neg c12] at H
     exact absurd H (by simp)
def casketlaw11_LexLong.Pure : Prop := ∀ (a0 : Int) (a1 : Int), (Lit.int .i64 a0).wf = true → (Lit.int .u8 a1).wf = true → ∃ k, casketlaw11_LexLong.f k a0 a1 = some true
theorem casketlaw11_LexLong.walk (P : casketlaw11_LexLong.Pure) (a0 : Int) (a1 : Int) (w : World) (hG : Glob w) (w0 : (Lit.int .i64 a0).wf = true) (w1 : (Lit.int .u8 a1).wf = true) :
  Calls Tryd.prog 4 #[.int .i64 a0, .int .u8 a1] w fun e w' => e = .returned (.bool true) ∧ Below w.heap.size w w' := by
 obtain ⟨k, h⟩ := P a0 a1 w0 w1
 refine (casketlaw11_LexLong.calls (hG := hG) k a0 a1 true w h).mono ?_
 rintro e w' ⟨rfl, hd⟩
 exact ⟨rfl, hd⟩
end Go.Proofs.YtjolkombhdibcaaDoor.Print
end
section
namespace Go.Proofs.YtjolkombhdibcaaDoor.Sp
open Go.RowKit Go.Proofs.YtjolkombhdibcaaDoorW.PrintWords Go.Proofs.YtjolkombhdibcaaDoorW.PrintMore Go.Proofs.YtjolkombhdibcaaDoor.Given Go.Proofs.YtjolkombhdibcaaDoor.Print
set_option linter.unusedVariables false
set_option linter.unusedSimpArgs false
def hexI (c : UInt8) : Int := match hexV c with
  | some v => (v : Int)
  | none => -1
theorem hexB' (n : Nat) : bt (⟨#[48, 49, 50, 51, 52, 53, 54, 55, 56, 57, 97, 98, 99, 100, 101, 102]⟩ : ByteArray) (n : Int) = (hexL.getD n 0).toNat := bt_bs hexL n
theorem hex_l0 (c : UInt8) : ∀ (d j : Nat), j + d = 16 → (∀ j' : Nat, j' < j → hexL.getD j' 0 ≠ c) → Ev (fun k => casketref4_hex.l0 k (c.toNat : Int) (j : Int)) (hexI c)
  | 0, j, h, hn => by
    obtain rfl : j = 16 := by omega
    refine Ev.step (fun k => by rw [casketref4_hex.l0]) ?_
    refine Ev.no (by omega) (Ev.ret ?_)
    unfold hexI
    rw [hex_none hn]
  | d + 1, j, h, hn => by
    refine Ev.step (fun k => by rw [casketref4_hex.l0]) ?_
    refine Ev.yes (by omega) (Ev.yes (by omega) ?_)
    rw [hexB']
    by_cases he : hexL.getD j 0 = c
    · refine Ev.yes (by rw [he]) (Ev.ret ?_)
      unfold hexI
      rw [hex_some (by omega) he]
    · refine Ev.no (fun e => he (UInt8.toNat_inj.1 (by omega))) ?_
      rw [w64 (by omega) (by omega)]
      exact hex_l0 c d (j + 1) (by omega) (no_more hn he)
theorem hex_ev (c : UInt8) : Ev (fun k => casketref4_hex.f k (c.toNat : Int)) (hexI c) := hex_l0 c 16 0 rfl (fun j' h => absurd h (by omega))
theorem nibble_f (l : List Nat) (v : Nat) (hv : v < 16) (hl : l.length ≤ 1000000) : casketref4_nibble.f (ints l) (v : Int) = some (ints (l ++ nib v)) := by
  unfold casketref4_nibble.f
  simp only [Option.bind_some, ints_len, List.length_cons, List.length_nil]
  rw [if_pos (by omega), ints_app]
  congr 2
  rw [tdiv_nn (by omega), tdiv_nn (by omega), tdiv_nn (by omega), w64 (x := (v : Int) / 8) (by omega) (by omega), w64 (x := (v : Int) / 4) (by omega) (by omega), w64 (x := (v : Int) / 2) (by omega) (by omega), tmod_nn (by omega), tmod_nn (by omega), tmod_nn (by omega)]
  simp [ints, nib]
def rowOf (ds : List Nat) : List Int := ints (ds.flatMap nib)
theorem rowOf_snoc (ds : List Nat) (v : Nat) : rowOf (ds ++ [v]) = ints (ds.flatMap nib ++ nib v) := by simp [rowOf]
theorem rp_exact (neg : Bool) (ds : List Nat) (e : Int) (hd : ∀ d ∈ ds, d < 16) (hl : ds.length ≤ 200) (he : -700000 ≤ e ∧ e ≤ 700000) :
    Ev (fun k => (casketref4_exact.f k (signN neg : Int) (rowOf ds) e).bind fun b => some (b.1, b.2)) (resR (signN neg) (exactS (val 16 0 ds) e)) := by
  have h := refExact_ev (signN neg) (by cases neg <;> simp [signN]) (ds.flatMap nib) e (nibs_lt hd) (by rw [nibs_len]; omega) (by omega)
  rw [val_nibs ds 0 hd] at h
  exact Ev.bind h (Ev.ret rfl)
theorem rp_l2 (m : List UInt8) (hm : m.length ≤ 64) (neg : Bool) (ds : List Nat) (b : Nat) (minus : Bool) (hd : ∀ d ∈ ds, d < 16) (hl : ds.length ≤ 200) (hb : b ≤ 200) :
    ∀ (r : List UInt8) (i v q : Nat), m.drop i = r → i ≤ m.length → v < 10 ^ q → q + r.length ≤ 5 →
    Ev (fun k => casketref4_ParseFloat.l2 k (bs m) (signN neg : Int) (i : Int) (rowOf ds) (b : Int) minus (v : Int))
      (if r.all isDig = true then resR (signN neg) (exactS (val 16 0 ds) ((if minus = true then -(decVal v r : Int) else (decVal v r : Int)) - 4 * b)) else (0, 20))
  | [], i, v, q, h, hi, hv, hq => by
    have hv5 : v < 100000 := Nat.lt_of_lt_of_le hv (Nat.pow_le_pow_right (n := 10) (by decide) (show q ≤ 5 by simpa using hq))
    have := drop_nil h hi
    refine Ev.step (fun k => by rw [casketref4_ParseFloat.l2]) ?_
    rw [bs_size]
    refine Ev.no (by omega) ?_
    rw [if_pos (show ([] : List UInt8).all isDig = true from rfl), show decVal v [] = v from rfl]
    cases minus with
    | true =>
      refine Ev.yes rfl ?_
      rw [w64 (x := -(v : Int)) (by omega) (by omega), w64 (x := 4 * (b : Int)) (by omega) (by omega), w64 (by omega) (by omega), if_pos rfl]
      exact rp_exact neg ds _ hd hl (by omega)
    | false =>
      refine Ev.no (by simp) ?_
      rw [w64 (x := 4 * (b : Int)) (by omega) (by omega), w64 (by omega) (by omega), if_neg (by simp)]
      exact rp_exact neg ds _ hd hl (by omega)
  | c :: r, i, v, q, h, hi, hv, hr => by
    obtain ⟨h1, h2, h3⟩ := drop_cons h
    refine Ev.step (fun k => by rw [casketref4_ParseFloat.l2]) ?_
    rw [bs_size]
    refine Ev.yes (by omega) (Ev.yes (by omega) ?_)
    rw [bt_bs, h1]
    by_cases hc : isDig c = true
    · have hcc : 48 ≤ c.toNat ∧ c.toNat ≤ 57 := by simpa [isDig] using hc
      obtain ⟨hs1, hs2⟩ := dig_sub hc
      refine Ev.no (by omega) (Ev.no (by omega) ?_)
      rw [hs1]
      have hq4 : q ≤ 4 := by simp at hr; omega
      have hv5 : v < 10000 := Nat.lt_of_lt_of_le hv (Nat.pow_le_pow_right (n := 10) (by decide) hq4)
      have hv2 : v * 10 + (c.toNat - 48) < 10 ^ (q + 1) := by rw [Nat.pow_succ]; omega
      have ih := rp_l2 m hm neg ds b minus hd hl hb r (i + 1) (v * 10 + (c.toNat - 48)) (q + 1) h3 (by omega) hv2 (by simp at hr; omega)
      rw [w64 (x := 10 * (v : Int)) (by omega) (by omega), w64 (x := 10 * (v : Int) + _) (by omega) (by omega), w64 (x := (i : Int) + 1) (by omega) (by omega)]
      rw [show 10 * (v : Int) + ((c.toNat - 48 : Nat) : Int) = ((v * 10 + (c.toNat - 48) : Nat) : Int) by omega]
      have e2 : (c :: r).all isDig = r.all isDig := by simp [hc]
      rw [e2]
      exact ih
    · have hc' : isDig c = false := by simpa using hc
      rw [if_neg (by simp [hc'])]
      by_cases h48 : (c.toNat : Int) < 48
      · exact Ev.yes h48 (Ev.ret rfl)
      · refine Ev.no h48 (Ev.yes ?_ (Ev.ret rfl))
        unfold isDig at hc'
        simp at hc'
        omega
theorem getD_of_drop {m : List UInt8} {i : Nat} {l : List UInt8} (h : m.drop i = l) (j : Nat) : m.getD (i + j) 0 = l.getD j 0 := by
  rw [← h, List.getD_eq_getElem?_getD, List.getD_eq_getElem?_getD, List.getElem?_drop]
theorem rp_j8 (m : List UInt8) (hm : m.length ≤ 64) (neg : Bool) (ds : List Nat) (b : Nat) (hd : ∀ d ∈ ds, d < 16) (hl : ds.length ≤ 200) (hb : b ≤ 200) (l : List UInt8) (i : Nat) (h : m.drop i = l) (hi : i ≤ m.length) :
    Ev (fun k => casketref4_ParseFloat.j8 k (bs m) (signN neg : Int) (i : Int) (rowOf ds) (b : Int)) (tailS neg ds b l) := by
  have hlen : l.length = m.length - i := by rw [← h]; simp
  have bad : ∀ i : Int, Ev (fun k => casketref4_ParseFloat.j9 k (bs m) (signN neg : Int) i (rowOf ds) (b : Int) true) (0, 20) := fun i => by
    refine Ev.step (fun k => by rw [casketref4_ParseFloat.j9]) ?_
    exact Ev.yes rfl (Ev.ret rfl)
  have bad2 : ∀ (i : Int) (x : Bool), Ev (fun k => casketref4_ParseFloat.j10 k (bs m) (signN neg : Int) i (rowOf ds) (b : Int) x true) (0, 20) := fun i x => by
    refine Ev.step (fun k => by rw [casketref4_ParseFloat.j10]) ?_
    exact Ev.yes rfl (Ev.ret rfl)
  refine Ev.step (fun k => by rw [casketref4_ParseFloat.j8]) ?_
  simp only [bs_size]
  rw [w64 (x := (i : Int) + 1) (by omega) (by omega)]
  cases l with
  | nil => exact Ev.yes (by simp at hlen; omega) (bad _)
  | cons c0 l1 =>
    cases l1 with
    | nil =>
      refine Ev.yes (by simp at hlen; omega) ?_
      rw [show tailS neg ds b [c0] = (0, 20) by unfold tailS; split <;> simp_all]
      exact bad _
    | cons c r =>
      refine Ev.no (by simp at hlen; omega) (Ev.yes (by omega) (Ev.yes (by simp at hlen; omega) ?_))
      have g0 := getD_of_drop h 0
      have g1 := getD_of_drop h 1
      rw [Nat.add_zero] at g0
      have e1 : bt (bs m) ((i : Int) + 1) = (c.toNat : Int) := by
        rw [show (i : Int) + 1 = ((i + 1 : Nat) : Int) by omega, bt_bs, g1]; rfl
      rw [bt_bs, g0, e1]
      by_cases hp : c0 = 112
      · subst hp
        refine Ev.yes rfl (Ev.yes (by omega) (Ev.yes (by simp at hlen; omega) ?_))
        rw [tailS_p]
        have go : (c = 43 ∨ c = 45) → Ev (fun k => casketref4_ParseFloat.j9 k (bs m) (signN neg : Int) (i : Int) (rowOf ds) (b : Int) false) (if (c = 43 ∨ c = 45) ∧ r ≠ [] ∧ r.length ≤ 5 ∧ r.all isDig = true then resR (signN neg) (exactS (val 16 0 ds) (expo c r - 4 * b)) else (0, 20)) := by
          intro hc
          refine Ev.step (fun k => by rw [casketref4_ParseFloat.j9]) ?_
          simp only [bs_size]
          rw [w64 (x := (i : Int) + 1) (by omega) (by omega), w64 (x := (i : Int) + 2) (by omega) (by omega), e1]
          refine Ev.no (by simp) (Ev.yes (by omega) (Ev.yes (by simp at hlen; omega) ?_))
          cases r with
          | nil =>
            refine Ev.yes (by simp at hlen; omega) ?_
            rw [if_neg (fun h => h.2.1 rfl)]
            exact bad2 _ _
          | cons d r =>
            refine Ev.no (by simp at hlen; omega) ?_
            rw [w64 (x := (m.length : Int) - ((i : Int) + 2)) (by omega) (by omega)]
            by_cases h5 : (d :: r).length ≤ 5
            · rw [decide_eq_false (by simp at hlen h5; omega)]
              refine Ev.step (fun k => by rw [casketref4_ParseFloat.j10]) ?_
              refine Ev.no (by simp) ?_
              have h2 := rp_l2 m hm neg ds b ((c.toNat : Int) == 45) hd hl hb (d :: r) (i + 2) 0 0 (by rw [← List.drop_drop, h]; rfl) (by simp at hlen; omega) (by simp) (by simpa using h5)
              have e3 : (if ((c.toNat : Int) == 45) = true then -(decVal 0 (d :: r) : Int) else (decVal 0 (d :: r) : Int)) = expo c (d :: r) := by
                unfold expo
                rcases hc with rfl | rfl
                · rfl
                · rfl
              rw [e3] at h2
              have e4 : (if (c = 43 ∨ c = 45) ∧ (d :: r) ≠ [] ∧ (d :: r).length ≤ 5 ∧ (d :: r).all isDig = true then resR (signN neg) (exactS (val 16 0 ds) (expo c (d :: r) - 4 * b)) else (0, 20)) = (if (d :: r).all isDig = true then resR (signN neg) (exactS (val 16 0 ds) (expo c (d :: r) - 4 * b)) else (0, 20)) := by
                by_cases ha : (d :: r).all isDig = true
                · rw [if_pos ⟨hc, by simp, h5, ha⟩, if_pos ha]
                · rw [if_neg (fun h => ha h.2.2.2), if_neg ha]
              rw [e4]
              exact h2
            · rw [decide_eq_true (by simp at hlen h5 ⊢; omega), if_neg (fun h => h5 h.2.2.1)]
              exact bad2 _ _
        by_cases c43 : c = 43
        · refine Ev.yes (by subst c43; rfl) ?_
          exact go (.inl c43)
        · refine Ev.no (fun h => c43 (u8_eq (n := 43) h (by decide))) ?_
          by_cases c45 : c = 45
          · have : ((c.toNat : Int) != 45) = false := by subst c45; rfl
            rw [this]
            exact go (.inr c45)
          · have : ((c.toNat : Int) != 45) = true := bne_iff_ne.2 (fun h => c45 (u8_eq (n := 45) h (by decide)))
            rw [this, if_neg (fun h => h.1.elim c43 c45)]
            exact bad _
      · refine Ev.no (fun h => hp (u8_eq (n := 112) h (by decide))) ?_
        rw [show tailS neg ds b (c0 :: c :: r) = (0, 20) by unfold tailS; split <;> simp_all]
        exact bad _
theorem dotS_no (neg : Bool) (ds : List Nat) (l : List UInt8) (h : ∀ r, l ≠ 46 :: r) : dotS neg ds l = tailS neg ds 0 l := by
  unfold dotS
  split
  · rename_i r; exact absurd rfl (h r)
  · rfl
theorem rp_stop1 (m : List UInt8) (hm : m.length ≤ 64) (neg : Bool) (l : List UInt8) (ds : List Nat) (b i : Nat) (h : m.drop i = l) (hi : i ≤ m.length) (hd : ∀ d ∈ ds, d < 16) (h1 : ds.length + l.length ≤ 200) (h2 : b + l.length ≤ 200) :
    (cutN l).1 = [] → (cutN l).2 = l → Ev (fun k => casketref4_ParseFloat.j7 k (bs m) (signN neg : Int) (i : Int) (rowOf ds) (b : Int) false) (if b + (cutN l).1.length = 0 then (0, 20) else tailS neg (ds ++ (cutN l).1) (b + (cutN l).1.length) (cutN l).2) := by
  intro e1 e2
  rw [e1, e2]
  refine Ev.step (fun k => by rw [casketref4_ParseFloat.j7]) ?_
  refine Ev.no (by simp) ?_
  simp only [List.length_nil, Nat.add_zero, List.append_nil]
  by_cases hb : b = 0
  · rw [if_pos hb]; exact Ev.yes (by omega) (Ev.ret rfl)
  · rw [if_neg hb]
    refine Ev.no (by omega) ?_
    exact rp_j8 m hm neg ds b hd (by omega) (by omega) l i h hi
theorem rp_l1 (m : List UInt8) (hm : m.length ≤ 64) (neg : Bool) : ∀ (l : List UInt8) (ds : List Nat) (b i : Nat), m.drop i = l → i ≤ m.length → (∀ d ∈ ds, d < 16) → ds.length + l.length ≤ 200 → b + l.length ≤ 200 →
    Ev (fun k => casketref4_ParseFloat.l1 k (bs m) (signN neg : Int) (i : Int) (rowOf ds) (b : Int)) (if b + (cutN l).1.length = 0 then (0, 20) else tailS neg (ds ++ (cutN l).1) (b + (cutN l).1.length) (cutN l).2)
  | [], ds, b, i, h, hi, hd, h1, h2 => by
    have := drop_nil h hi
    refine Ev.step (fun k => by rw [casketref4_ParseFloat.l1]) ?_
    rw [bs_size]
    refine Ev.no (by omega) ?_
    exact rp_stop1 m hm neg [] ds b i h hi hd h1 h2 rfl rfl
  | c :: r, ds, b, i, h, hi, hd, h1, h2 => by
    obtain ⟨g1, g2, g3⟩ := drop_cons h
    refine Ev.step (fun k => by rw [casketref4_ParseFloat.l1]) ?_
    rw [bs_size]
    refine Ev.yes (by omega) (Ev.yes (by omega) ?_)
    rw [bt_bs, g1]
    refine Ev.bind (hex_ev c) ?_
    cases hv : hexV c with
    | none =>
      have e : decide (hexI c ≥ 0) = false := by unfold hexI; rw [hv]; rfl
      rw [e]
      exact rp_stop1 m hm neg (c :: r) ds b i h hi hd h1 h2 (by unfold cutN; rw [hv]) (by unfold cutN; rw [hv])
    | some v =>
      have hlt := hexV_lt hv
      have ei : hexI c = (v : Int) := by unfold hexI; rw [hv]
      have e : decide (hexI c ≥ 0) = true := by rw [ei]; exact decide_eq_true (by omega)
      rw [e]
      refine Ev.step (fun k => by rw [casketref4_ParseFloat.j7]) ?_
      rw [bs_size]
      refine Ev.yes rfl (Ev.yes (by omega) (Ev.yes (by omega) ?_))
      rw [bt_bs, g1]
      refine Ev.bind (hex_ev c) ?_
      rw [ei]
      refine Ev.bind0 (nibble_f _ v hlt (by rw [nibs_len]; simp at h1; omega)) ?_
      rw [← rowOf_snoc, w64 (x := (i : Int) + 1) (by omega) (by omega), w64 (x := (b : Int) + 1) (by omega) (by omega)]
      have ih := rp_l1 m hm neg r (ds ++ [v]) (b + 1) (i + 1) g3 (by omega) (fun d hx => by
        rcases List.mem_append.1 hx with hx | hx
        · exact hd d hx
        · rw [List.mem_singleton.1 hx]; exact hlt) (by simp at h1 ⊢; omega) (by simp at h2; omega)
      have ec : cutN (c :: r) = (v :: (cutN r).1, (cutN r).2) := by rw [cutN, hv]
      rw [ec]
      simp only [List.length_cons, List.append_assoc, List.singleton_append] at ih ⊢
      rw [show b + ((cutN r).1.length + 1) = b + 1 + (cutN r).1.length by omega]
      exact ih
theorem rp_stop0 (m : List UInt8) (hm : m.length ≤ 64) (neg : Bool) (l : List UInt8) (ds : List Nat) (i : Nat) (h : m.drop i = l) (hi : i ≤ m.length) (hd : ∀ d ∈ ds, d < 16) (h1 : ds.length + l.length ≤ 200) :
    (cutN l).1 = [] → (cutN l).2 = l → (∀ r, l = 46 :: r → m.drop (i + 1) = r ∧ i + 1 ≤ m.length ∧ bt (bs m) (i : Int) = 46) → (∀ c r, l = c :: r → bt (bs m) (i : Int) = (c.toNat : Int)) → Ev (fun k => casketref4_ParseFloat.j4 k (bs m) (signN neg : Int) (i : Int) (rowOf ds) (ds.length : Int) 0 false) (if (ds ++ (cutN l).1) = [] then (0, 20) else dotS neg (ds ++ (cutN l).1) (cutN l).2) := by
  intro e1 e2 hdot hb
  rw [e1, e2]
  refine Ev.step (fun k => by rw [casketref4_ParseFloat.j4]) ?_
  refine Ev.no (by simp) ?_
  simp only [List.append_nil, bs_size]
  by_cases hds : ds = []
  · rw [if_pos hds]; subst hds; exact Ev.yes rfl (Ev.ret rfl)
  · rw [if_neg hds]
    have := List.length_pos_iff.2 hds
    refine Ev.no (by omega) ?_
    have last : (∀ r, l ≠ 46 :: r) → Ev (fun k => casketref4_ParseFloat.j5 k (bs m) (signN neg : Int) (i : Int) (rowOf ds) 0 false) (dotS neg ds l) := by
      intro hno
      refine Ev.step (fun k => by rw [casketref4_ParseFloat.j5]) ?_
      refine Ev.no (by simp) ?_
      rw [dotS_no neg ds l hno]
      exact rp_j8 m hm neg ds 0 hd (by omega) (by omega) l i h hi
    cases l with
    | nil =>
      have := drop_nil h hi
      refine Ev.no (by omega) ?_
      exact last (by simp)
    | cons c r =>
      obtain ⟨g1, g2, g3⟩ := drop_cons h
      refine Ev.yes (by omega) (Ev.yes (by omega) ?_)
      rw [hb c r rfl]
      by_cases h46 : c = 46
      · subst h46
        refine Ev.step (fun k => by rw [casketref4_ParseFloat.j5]) ?_
        refine Ev.yes rfl ?_
        rw [w64 (by omega) (by omega)]
        have h2 := rp_l1 m hm neg r ds 0 (i + 1) g3 (by omega) hd (by simp at h1; omega) (by simp at h1; omega)
        show Ev _ (if (cutN r).1 = [] then (0, 20) else tailS neg (ds ++ (cutN r).1) (cutN r).1.length (cutN r).2)
        simp only [Nat.zero_add, List.length_eq_zero_iff] at h2
        exact h2
      · have : ((c.toNat : Int) == 46) = false := beq_eq_false_iff_ne.2 (fun h => h46 (u8_eq (n := 46) h (by decide)))
        rw [this]
        exact last (fun r' e => h46 (List.cons.inj e).1)
theorem rp_l0 (m : List UInt8) (hm : m.length ≤ 64) (neg : Bool) : ∀ (l : List UInt8) (ds : List Nat) (i : Nat), m.drop i = l → i ≤ m.length → (∀ d ∈ ds, d < 16) → ds.length + l.length ≤ 200 →
    Ev (fun k => casketref4_ParseFloat.l0 k (bs m) (signN neg : Int) (i : Int) (rowOf ds) (ds.length : Int) 0) (if (ds ++ (cutN l).1) = [] then (0, 20) else dotS neg (ds ++ (cutN l).1) (cutN l).2)
  | [], ds, i, h, hi, hd, h1 => by
    have := drop_nil h hi
    refine Ev.step (fun k => by rw [casketref4_ParseFloat.l0]) ?_
    rw [bs_size]
    refine Ev.no (by omega) ?_
    exact rp_stop0 m hm neg [] ds i h hi hd h1 rfl rfl (by simp) (by simp)
  | c :: r, ds, i, h, hi, hd, h1 => by
    obtain ⟨g1, g2, g3⟩ := drop_cons h
    have hb : bt (bs m) (i : Int) = (c.toNat : Int) := by rw [bt_bs, g1]
    refine Ev.step (fun k => by rw [casketref4_ParseFloat.l0]) ?_
    rw [bs_size]
    refine Ev.yes (by omega) (Ev.yes (by omega) ?_)
    rw [hb]
    refine Ev.bind (hex_ev c) ?_
    cases hv : hexV c with
    | none =>
      have e : decide (hexI c ≥ 0) = false := by unfold hexI; rw [hv]; rfl
      rw [e]
      exact rp_stop0 m hm neg (c :: r) ds i h hi hd h1 (by unfold cutN; rw [hv]) (by unfold cutN; rw [hv]) (fun r' e' => by
        obtain ⟨rfl, rfl⟩ := List.cons.inj e'
        exact ⟨g3, by omega, hb⟩) (fun c' r' e' => by
        obtain ⟨rfl, rfl⟩ := List.cons.inj e'
        exact hb)
    | some v =>
      have hlt := hexV_lt hv
      have ei : hexI c = (v : Int) := by unfold hexI; rw [hv]
      have e : decide (hexI c ≥ 0) = true := by rw [ei]; exact decide_eq_true (by omega)
      rw [e]
      refine Ev.step (fun k => by rw [casketref4_ParseFloat.j4]) ?_
      rw [bs_size]
      refine Ev.yes rfl (Ev.yes (by omega) (Ev.yes (by omega) ?_))
      rw [hb]
      refine Ev.bind (hex_ev c) ?_
      rw [ei]
      refine Ev.bind0 (nibble_f _ v hlt (by rw [nibs_len]; simp at h1; omega)) ?_
      rw [← rowOf_snoc, w64 (x := (i : Int) + 1) (by omega) (by omega), w64 (x := (ds.length : Int) + 1) (by simp at h1; omega) (by simp at h1; omega)]
      have ih := rp_l0 m hm neg r (ds ++ [v]) (i + 1) g3 (by omega) (fun d hx => by
        rcases List.mem_append.1 hx with hx | hx
        · exact hd d hx
        · rw [List.mem_singleton.1 hx]; exact hlt) (by simp at h1 ⊢; omega)
      have ec : cutN (c :: r) = (v :: (cutN r).1, (cutN r).2) := by rw [cutN, hv]
      rw [ec]
      simp only [List.length_append, List.length_cons, List.length_nil, List.append_assoc, List.singleton_append] at ih ⊢
      exact ih
theorem rp_j1 (m : List UInt8) (hm : m.length ≤ 64) (neg : Bool) : Ev (fun k => casketref4_ParseFloat.j1 k (bs m) (signN neg : Int)) (hexS neg m) := by
  have bad : Ev (fun k => casketref4_ParseFloat.j2 k (bs m) (signN neg : Int) true) (0, 20) := by
    refine Ev.step (fun k => by rw [casketref4_ParseFloat.j2]) ?_
    exact Ev.yes rfl (Ev.ret rfl)
  have no : (∀ r, m ≠ 48 :: 120 :: r) → hexS neg m = (0, 20) := by
    intro h
    unfold hexS
    split
    · rename_i r; exact absurd rfl (h r)
    · rfl
  refine Ev.step (fun k => by rw [casketref4_ParseFloat.j1]) ?_
  simp only [bs_size]
  match m, hm, bad, no with
  | [], hm, bad, no => rw [no (by simp)]; exact Ev.yes (by simp) bad
  | [c], hm, bad, no => rw [no (by simp)]; exact Ev.yes (by simp) bad
  | c :: d :: r, hm, bad, no =>
    refine Ev.no (by simp; omega) (Ev.yes (by simp; omega) ?_)
    rw [bt0, bt1]
    by_cases h48 : c = 48
    · subst h48
      refine Ev.yes rfl (Ev.yes (by simp; omega) ?_)
      by_cases h120 : d = 120
      · subst h120
        have : ((UInt8.toNat 120 : Int) != 120) = false := rfl
        rw [this]
        refine Ev.step (fun k => by rw [casketref4_ParseFloat.j2]) ?_
        refine Ev.no (by simp) ?_
        have h := rp_l0 (48 :: 120 :: r) hm neg r [] 2 rfl (by simp) (fun d hd => by simp at hd) (by simp at hm ⊢; omega)
        show Ev _ (bodyS neg r)
        unfold bodyS
        simp only [List.nil_append] at h
        exact h
      · have : ((d.toNat : Int) != 120) = true := bne_iff_ne.2 (fun h => h120 (u8_eq (n := 120) h (by decide)))
        rw [this, no (fun r' e => by simp at e; exact h120 e.1)]
        exact bad
    · refine Ev.no (fun h => h48 (u8_eq (n := 48) h (by decide))) ?_
      rw [no (fun r' e => by simp at e; exact h48 e.1)]
      exact bad
theorem refParseFloat_ev (l : List UInt8) (hl : l.length ≤ 1000000) : Ev (fun k => casketref4_ParseFloat.f k (bs l)) (pfS l) := by
  unfold casketref4_ParseFloat.f pfS
  simp only [bs_size, bs_toList]
  by_cases h0 : 64 < l.length
  · rw [if_pos h0]; exact Ev.yes (by omega) (Ev.ret rfl)
  · rw [if_neg h0]
    refine Ev.no (by omega) ?_
    by_cases h1 : l = [110, 97, 110]
    · rw [if_pos h1]; exact Ev.yes h1 (Ev.ret rfl)
    · rw [if_neg h1]
      refine Ev.no h1 ?_
      by_cases h2 : l = [105, 110, 102]
      · rw [if_pos h2]; exact Ev.yes h2 (Ev.ret rfl)
      · rw [if_neg h2]
        refine Ev.no h2 ?_
        by_cases h3 : l = [45, 105, 110, 102]
        · rw [if_pos h3]; exact Ev.yes h3 (Ev.ret rfl)
        · rw [if_neg h3]
          refine Ev.no h3 ?_
          have j0no : minusB l = false → Ev (fun k => casketref4_ParseFloat.j0 k (bs l) 0 false) (hexS (minusB l) (magB l)) := by
            intro hm
            have hg : magB l = l := by unfold magB; rw [hm]; simp
            rw [hm, hg]
            refine Ev.step (fun k => by rw [casketref4_ParseFloat.j0]) ?_
            refine Ev.no (by simp) ?_
            exact rp_j1 l (by omega) false
          cases l with
          | nil => exact Ev.yes rfl (j0no rfl)
          | cons c r =>
            refine Ev.no (by simp) (Ev.yes (by simp <;> omega) ?_)
            rw [bt0]
            by_cases hm : c = 45
            · subst hm
              have e : ((UInt8.toNat 45 : Int) == 45) = true := rfl
              rw [e]
              have hg : magB (45 :: r) = r := rfl
              have hb : minusB (45 :: r) = true := rfl
              rw [hg, hb]
              refine Ev.step (fun k => by rw [casketref4_ParseFloat.j0]) ?_
              refine Ev.yes rfl (Ev.yes (by rw [bs_size]; simp <;> omega) ?_)
              rw [bs_from]
              exact rp_j1 r (by simp at h0; omega) true
            · have e : ((c.toNat : Int) == 45) = false := by
                rw [beq_eq_false_iff_ne]
                intro h
                exact hm (u8_eq (n := 45) h (by decide))
              rw [e]
              exact j0no (by unfold minusB; simpa using hm)
end Go.Proofs.YtjolkombhdibcaaDoor.Sp
end
section
namespace Go.Proofs.YtjolkombhdibcaaDoor.Sp
open Go.RowKit Go.Proofs.YtjolkombhdibcaaDoorW.PrintWords Go.Proofs.YtjolkombhdibcaaDoorW.PrintMore Go.Proofs.YtjolkombhdibcaaDoor.Given Go.Proofs.YtjolkombhdibcaaDoor.Print
set_option linter.unusedVariables false
set_option linter.unusedSimpArgs false
abbrev T8 := Int × Int × ByteArray × Int × Int × Int × Int × Int
def refT (t : T7) (p : Nat) : T8 := if te t = 0 then (t.1, p, t.2.2.1, t.2.2.2.1, t.2.2.2.2.1, p + tn t, 0, 0) else (0, 0, bs [], 0, 0, p, te t, p)
theorem refT_tok (k : Int) (t : List UInt8) (i b : Int) (n p : Nat) : refT (tok k t i b n) p = (k, (p : Int), bs t, i, b, ((p + n : Nat) : Int), 0, 0) := by
  unfold refT
  rw [if_pos (tok_te k t i b n)]
  show (k, (p : Int), bs t, i, b, (p : Int) + (n : Int), (0 : Int), (0 : Int)) = _
  rw [show (p : Int) + (n : Int) = ((p + n : Nat) : Int) by omega]
theorem refT_bad {e : Int} (h : e ≠ 0) (p : Nat) : refT (bad e) p = (0, 0, bs [], 0, 0, (p : Int), e, (p : Int)) := by
  unfold refT
  rw [if_neg (show te (bad e) ≠ 0 from h)]; rfl
theorem starts_f (c : UInt8) : casketref11_starts.f (c.toNat : Int) = some (lowB c) := by
  unfold casketref11_starts.f lowB
  have h5 : ((c.toNat : Int) == 95) = (c == 95) := c_eq (n := 95) (by decide)
  by_cases h1 : 97 ≤ c.toNat
  · rw [if_pos (by omega)]
    by_cases h2 : c.toNat ≤ 122
    · rw [if_pos (by omega), decide_eq_true ⟨h1, h2⟩]; rfl
    · rw [if_neg (by omega), decide_eq_false (by omega), h5]; rfl
  · rw [if_neg (by omega), decide_eq_false (by omega), h5]; rfl
theorem rdigit_f (c : UInt8) : casketref11_digit.f (c.toNat : Int) = some (isDig c) := by
  unfold casketref11_digit.f isDig
  by_cases h : 48 ≤ c.toNat
  · rw [if_pos (by omega)]; congr 1; rw [decide_eq_decide]; omega
  · rw [if_neg (by omega), decide_eq_false (by omega)]
theorem goesOn_f (c : UInt8) : casketref11_goesOn.f (c.toNat : Int) = some (nameB c) := by
  unfold casketref11_goesOn.f nameB
  rw [starts_f, rdigit_f]
  cases lowB c <;> rfl
def hexJ (c : UInt8) : Int := match hexV c with | some v => v | none => -1
theorem rhex_f (c : UInt8) : casketref11_hex.f (c.toNat : Int) = some (hexJ c) := by
  unfold casketref11_hex.f hexJ hexV
  rw [rdigit_f]
  by_cases h1 : 48 ≤ c.toNat ∧ c.toNat ≤ 57
  · rw [if_pos h1]
    show (if isDig c = true then _ else _) = _
    rw [if_pos (by unfold isDig; exact decide_eq_true h1)]
    congr 1
    dsimp only
    omega
  · rw [if_neg h1]
    show (if isDig c = true then _ else _) = _
    rw [if_neg (by unfold isDig; simpa using h1)]
    by_cases h2 : 97 ≤ c.toNat ∧ c.toNat ≤ 102
    · rw [if_pos h2, if_pos (by omega), if_pos (by omega)]
      congr 1
      dsimp only
      omega
    · rw [if_neg h2]
      by_cases h3 : 97 ≤ c.toNat
      · rw [if_pos (by omega), if_neg (by omega)]
      · rw [if_neg (by omega)]
theorem hexJ_pos (c : UInt8) : (hexJ c ≥ 0) ↔ hexB c = true := by
  rw [hexDB]
  unfold hexJ
  cases hexV c with
  | none => simp
  | some v => simp
theorem run_stop {p : UInt8 → Bool} {c : UInt8} (h : p c = false) (r : List UInt8) : Given.runN p (c :: r) = 0 := by
  unfold Given.runN
  rw [List.takeWhile_cons, h]; rfl
theorem cut_ext (l : List UInt8) {p n : Nat} (h : p ≤ n) : (bs l).extract p n = bs ((l.drop p).take (n - p)) := by
  rw [bs_ext, List.drop_take]
theorem cut_len (l : List UInt8) {p n : Nat} (h : p ≤ n) (hn : n ≤ l.length) : ((l.drop p).take (n - p)).length = n - p := by
  rw [List.length_take, List.length_drop]; omega
theorem reserved_f (t : List UInt8) : casketref11_Reserved.f (bs t) = some (decide (t ∈ wordsL)) := by
  unfold casketref11_Reserved.f
  simp only [bs_toList]
  by_cases h : t ∈ wordsL
  · rw [decide_eq_true h]
    unfold wordsL at h
    simp only [List.mem_cons, List.not_mem_nil, or_false] at h
    rcases h with rfl | rfl | rfl | rfl | rfl | rfl | rfl | rfl | rfl | rfl | rfl | rfl | rfl | rfl | rfl | rfl | rfl <;> rfl
  · rw [decide_eq_false h]
    unfold wordsL at h
    simp only [List.mem_cons, List.not_mem_nil, or_false, not_or] at h
    obtain ⟨h1, h2, h3, h4, h5, h6, h7, h8, h9, h10, h11, h12, h13, h14, h15, h16, h17⟩ := h
    rw [if_neg h1, if_neg h2, if_neg h3, if_neg h4, if_neg h5, if_neg h6, if_neg h7, if_neg h8, if_neg h9, if_neg h10, if_neg h11, if_neg h12, if_neg h13, if_neg h14, if_neg h15, if_neg h16, if_neg h17]
theorem rmark_f (t : List UInt8) : casketref11_mark.f (bs t) = some (decide (t ∈ marksL)) := by
  unfold casketref11_mark.f
  simp only [bs_toList]
  by_cases h : t ∈ marksL
  · rw [decide_eq_true h]
    unfold marksL at h
    simp only [List.mem_cons, List.not_mem_nil, or_false] at h
    rcases h with rfl | rfl | rfl | rfl | rfl | rfl | rfl | rfl | rfl | rfl | rfl | rfl | rfl | rfl | rfl | rfl | rfl | rfl | rfl | rfl | rfl | rfl | rfl | rfl | rfl | rfl | rfl | rfl | rfl <;> rfl
  · rw [decide_eq_false h]
    unfold marksL at h
    simp only [List.mem_cons, List.not_mem_nil, or_false, not_or] at h
    obtain ⟨h1, h2, h3, h4, h5, h6, h7, h8, h9, h10, h11, h12, h13, h14, h15, h16, h17, h18, h19, h20, h21, h22, h23, h24, h25, h26, h27, h28, h29⟩ := h
    rw [if_neg h1, if_neg h2, if_neg h3, if_neg h4, if_neg h5, if_neg h6, if_neg h7, if_neg h8, if_neg h9, if_neg h10, if_neg h11, if_neg h12, if_neg h13, if_neg h14, if_neg h15, if_neg h16, if_neg h17, if_neg h18, if_neg h19, if_neg h20, if_neg h21, if_neg h22, if_neg h23, if_neg h24, if_neg h25, if_neg h26, if_neg h27, if_neg h28, if_neg h29]
theorem rname_j2 (t : List UInt8) (p : Nat) (ht : t.length ≤ 31) : Ev (fun k => casketref11_name.j2 k (p : Int) ((p + t.length : Nat) : Int) (bs t) (decide (t = [105, 110, 102] ∨ t = [110, 97, 110]))) (refT (nameT t) p) := by
  refine Ev.step (fun k => by rw [casketref11_name.j2]) ?_
  unfold nameT
  rw [if_neg (by omega)]
  by_cases h : t = [105, 110, 102] ∨ t = [110, 97, 110]
  · rw [if_pos h, refT_tok]
    exact Ev.yes (decide_eq_true h) (Ev.bind (refParseFloat_ev t (by omega)) (Ev.ret rfl))
  · rw [if_neg h]
    refine Ev.no (by simpa using h) (Ev.bind0 (reserved_f t) ?_)
    by_cases hw : t ∈ wordsL
    · rw [if_pos hw, refT_tok]; exact Ev.yes (decide_eq_true hw) (Ev.ret rfl)
    · rw [if_neg hw, refT_tok]; exact Ev.no (by simpa using hw) (Ev.ret rfl)
theorem rname_j1 (l : List UInt8) (hl : l.length ≤ 1000000) (p n : Nat) (h1 : p ≤ n) (h2 : n ≤ l.length) : Ev (fun k => casketref11_name.j1 k (bs l) (p : Int) (n : Int)) (refT (nameT ((l.drop p).take (n - p))) p) := by
  refine Ev.step (fun k => by rw [casketref11_name.j1]) ?_
  refine Ev.yes (by omega) (Ev.yes (by omega) (Ev.yes (by rw [bs_size]; omega) ?_))
  have hlen := cut_len l h1 h2
  rw [Int.toNat_natCast, Int.toNat_natCast, cut_ext l h1, bs_size, hlen]
  generalize ht : (l.drop p).take (n - p) = t at hlen
  by_cases h : 31 < n - p
  · have : nameT t = bad 63 := by unfold nameT; rw [if_pos (by omega)]
    rw [this, refT_bad (by decide)]
    exact Ev.yes (by omega) (Ev.ret rfl)
  · refine Ev.no (by omega) ?_
    have hj := rname_j2 t p (by omega)
    rw [hlen, show p + (n - p) = n by omega] at hj
    rw [bs_toList]
    by_cases g1 : t = [105, 110, 102]
    · rw [decide_eq_true (.inl g1)] at hj
      exact Ev.yes g1 hj
    · refine Ev.no g1 ?_
      have e : decide (t = [105, 110, 102] ∨ t = [110, 97, 110]) = (t == [110, 97, 110]) := by
        by_cases g2 : t = [110, 97, 110]
        · rw [decide_eq_true (.inr g2), beq_iff_eq.2 g2]
        · rw [decide_eq_false (fun h => h.elim g1 g2), beq_eq_false_iff_ne.2 g2]
      rw [e] at hj
      exact hj
theorem rname_l0 (l : List UInt8) (hl : l.length ≤ 1000000) (p : Nat) (X : T8) : ∀ (m : Nat) (r : List UInt8) (q : Nat), r.length ≤ m → l.drop q = r → q ≤ l.length →
    Ev (fun k => casketref11_name.j1 k (bs l) (p : Int) ((q + Given.runN nameB r : Nat) : Int)) X → Ev (fun k => casketref11_name.l0 k (bs l) (p : Int) (q : Int)) X := by
  intro m
  induction m with
  | zero =>
    intro r q hm h hq hX
    have : r = [] := List.eq_nil_of_length_eq_zero (by omega)
    subst this
    have : l.length ≤ q := by have := List.drop_eq_nil_iff.1 h; omega
    refine Ev.step (fun k => by rw [casketref11_name.l0]) ?_
    exact Ev.no (by rw [bs_size]; omega) hX
  | succ m ih =>
    intro r q hm h hq hX
    cases r with
    | nil =>
      have : l.length ≤ q := by have := List.drop_eq_nil_iff.1 h; omega
      refine Ev.step (fun k => by rw [casketref11_name.l0]) ?_
      exact Ev.no (by rw [bs_size]; omega) hX
    | cons c r =>
      obtain ⟨h1, h2, h3⟩ := drop_cons h
      refine Ev.step (fun k => by rw [casketref11_name.l0]) ?_
      refine Ev.yes (by rw [bs_size]; omega) (Ev.yes (by omega) ?_)
      rw [bt_bs, h1]
      refine Ev.bind0 (goesOn_f c) ?_
      by_cases hc : nameB c = true
      · refine Ev.yes hc ?_
        rw [w64 (by omega) (by omega)]
        refine ih r (q + 1) (by simpa using hm) h3 (by omega) ?_
        rw [run_cons hc, show q + (1 + Given.runN nameB r) = q + 1 + Given.runN nameB r by omega] at hX
        exact hX
      · refine Ev.no hc ?_
        rw [run_stop (by simpa using hc)] at hX
        exact hX
theorem rname_ev (l : List UInt8) (hl : l.length ≤ 1000000) (p : Nat) (hp : p ≤ l.length) : Ev (fun k => casketref11_name.f k (bs l) (p : Int)) (refT (nameT ((l.drop p).takeWhile nameB)) p) := by
  unfold casketref11_name.f
  have hle := runN_le nameB (l.drop p)
  rw [List.length_drop] at hle
  refine rname_l0 l hl p _ _ _ p (Nat.le_refl _) rfl hp ?_
  have := rname_j1 l hl p (p + Given.runN nameB (l.drop p)) (by omega) (by omega)
  rw [show p + Given.runN nameB (l.drop p) - p = Given.runN nameB (l.drop p) by omega, take_run] at this
  exact this
theorem rnum_j7 (l : List UInt8) (hl : l.length ≤ 1000000) (p n : Nat) (h1 : p ≤ n) (h2 : n ≤ l.length) : Ev (fun k => casketref11_number.j7 k (bs l) (p : Int) (n : Int)) (refT (floatTok ((l.drop p).take (n - p))) p) := by
  refine Ev.step (fun k => by rw [casketref11_number.j7]) ?_
  refine Ev.yes (by omega) (Ev.yes (by omega) (Ev.yes (by rw [bs_size]; omega) ?_))
  have hlen := cut_len l h1 h2
  rw [Int.toNat_natCast, Int.toNat_natCast, cut_ext l h1]
  generalize ht : (l.drop p).take (n - p) = t at hlen
  refine Ev.bind (refParseFloat_ev t (by omega)) ?_
  unfold floatTok
  by_cases h : (pfS t).2 = 0
  · simp only [if_pos h]
    rw [refT_tok, hlen, show p + (n - p) = n by omega]
    exact Ev.ret rfl
  · simp only [if_neg h]
    rw [refT_bad (by decide)]
    exact Ev.ret rfl
theorem rnum_j9 (l : List UInt8) (hl : l.length ≤ 1000000) (p n : Nat) (h1 : p ≤ n) (h2 : n ≤ l.length) : Ev (fun k => casketref11_number.j9 k (bs l) (p : Int) (n : Int)) (refT (wholeTok ((l.drop p).take (n - p))) p) := by
  refine Ev.step (fun k => by rw [casketref11_number.j9]) ?_
  refine Ev.yes (by omega) (Ev.yes (by omega) (Ev.yes (by rw [bs_size]; omega) ?_))
  have hlen := cut_len l h1 h2
  rw [Int.toNat_natCast, Int.toNat_natCast, cut_ext l h1]
  generalize ht : (l.drop p).take (n - p) = t at hlen
  refine Ev.bind (refParseInt_ev t (by omega)) ?_
  unfold wholeTok
  by_cases h : (parseIntT t).2 = 0
  · simp only [if_pos h]
    rw [refT_tok, hlen, show p + (n - p) = n by omega]
    exact Ev.ret rfl
  · simp only [if_neg h]
    rw [refT_bad (by decide)]
    exact Ev.ret rfl
theorem rnum_l1 (l : List UInt8) (hl : l.length ≤ 1000000) (p : Nat) (X : T8) : ∀ (m : Nat) (r : List UInt8) (q : Nat), r.length ≤ m → l.drop q = r → q ≤ l.length →
    Ev (fun k => casketref11_number.j7 k (bs l) (p : Int) ((q + Given.runN isDig r : Nat) : Int)) X → Ev (fun k => casketref11_number.l1 k (bs l) (p : Int) (q : Int)) X := by
  intro m
  induction m with
  | zero =>
    intro r q hm h hq hX
    have : r = [] := List.eq_nil_of_length_eq_zero (by omega)
    subst this
    have : l.length ≤ q := by have := List.drop_eq_nil_iff.1 h; omega
    refine Ev.step (fun k => by rw [casketref11_number.l1]) ?_
    exact Ev.no (by rw [bs_size]; omega) hX
  | succ m ih =>
    intro r q hm h hq hX
    cases r with
    | nil =>
      have : l.length ≤ q := by have := List.drop_eq_nil_iff.1 h; omega
      refine Ev.step (fun k => by rw [casketref11_number.l1]) ?_
      exact Ev.no (by rw [bs_size]; omega) hX
    | cons c r =>
      obtain ⟨h1, h2, h3⟩ := drop_cons h
      refine Ev.step (fun k => by rw [casketref11_number.l1]) ?_
      refine Ev.yes (by rw [bs_size]; omega) (Ev.yes (by omega) ?_)
      rw [bt_bs, h1]
      refine Ev.bind0 (rdigit_f c) ?_
      by_cases hc : isDig c = true
      · refine Ev.yes hc ?_
        rw [w64 (by omega) (by omega)]
        refine ih r (q + 1) (by simpa using hm) h3 (by omega) ?_
        rw [run_cons hc, show q + (1 + Given.runN isDig r) = q + 1 + Given.runN isDig r by omega] at hX
        exact hX
      · refine Ev.no hc ?_
        rw [run_stop (by simpa using hc)] at hX
        exact hX
theorem rnum_l2 (l : List UInt8) (hl : l.length ≤ 1000000) (p : Nat) (X : T8) : ∀ (m : Nat) (r : List UInt8) (q : Nat), r.length ≤ m → l.drop q = r → q ≤ l.length →
    Ev (fun k => casketref11_number.j9 k (bs l) (p : Int) ((q + Given.runN isDig r : Nat) : Int)) X → Ev (fun k => casketref11_number.l2 k (bs l) (p : Int) (q : Int)) X := by
  intro m
  induction m with
  | zero =>
    intro r q hm h hq hX
    have : r = [] := List.eq_nil_of_length_eq_zero (by omega)
    subst this
    have : l.length ≤ q := by have := List.drop_eq_nil_iff.1 h; omega
    refine Ev.step (fun k => by rw [casketref11_number.l2]) ?_
    exact Ev.no (by rw [bs_size]; omega) hX
  | succ m ih =>
    intro r q hm h hq hX
    cases r with
    | nil =>
      have : l.length ≤ q := by have := List.drop_eq_nil_iff.1 h; omega
      refine Ev.step (fun k => by rw [casketref11_number.l2]) ?_
      exact Ev.no (by rw [bs_size]; omega) hX
    | cons c r =>
      obtain ⟨h1, h2, h3⟩ := drop_cons h
      refine Ev.step (fun k => by rw [casketref11_number.l2]) ?_
      refine Ev.yes (by rw [bs_size]; omega) (Ev.yes (by omega) ?_)
      rw [bt_bs, h1]
      refine Ev.bind0 (rdigit_f c) ?_
      by_cases hc : isDig c = true
      · refine Ev.yes hc ?_
        rw [w64 (by omega) (by omega)]
        refine ih r (q + 1) (by simpa using hm) h3 (by omega) ?_
        rw [run_cons hc, show q + (1 + Given.runN isDig r) = q + 1 + Given.runN isDig r by omega] at hX
        exact hX
      · refine Ev.no hc ?_
        rw [run_stop (by simpa using hc)] at hX
        exact hX
theorem rnum_l0 (l : List UInt8) (hl : l.length ≤ 1000000) (p : Nat) (X : T8) : ∀ (m : Nat) (r : List UInt8) (q : Nat), r.length ≤ m → l.drop q = r → q ≤ l.length →
    Ev (fun k => casketref11_number.j2 k (bs l) (p : Int) ((q + Given.runN dotB r : Nat) : Int)) X → Ev (fun k => casketref11_number.l0 k (bs l) (p : Int) (q : Int)) X := by
  intro m
  induction m with
  | zero =>
    intro r q hm h hq hX
    have : r = [] := List.eq_nil_of_length_eq_zero (by omega)
    subst this
    have : l.length ≤ q := by have := List.drop_eq_nil_iff.1 h; omega
    refine Ev.step (fun k => by rw [casketref11_number.l0]) ?_
    exact Ev.no (by rw [bs_size]; omega) hX
  | succ m ih =>
    intro r q hm h hq hX
    cases r with
    | nil =>
      have : l.length ≤ q := by have := List.drop_eq_nil_iff.1 h; omega
      refine Ev.step (fun k => by rw [casketref11_number.l0]) ?_
      exact Ev.no (by rw [bs_size]; omega) hX
    | cons c r =>
      obtain ⟨h1, h2, h3⟩ := drop_cons h
      refine Ev.step (fun k => by rw [casketref11_number.l0]) ?_
      refine Ev.yes (by rw [bs_size]; omega) (Ev.yes (by omega) ?_)
      rw [bt_bs, h1]
      refine Ev.bind0 (rhex_f c) ?_
      have go : dotB c = true → Ev (fun k => casketref11_number.l0 k (bs l) (p : Int) (wrap64 ((q : Int) + 1))) X := by
        intro hc
        rw [w64 (by omega) (by omega)]
        refine ih r (q + 1) (by simpa using hm) h3 (by omega) ?_
        rw [run_cons hc, show q + (1 + Given.runN dotB r) = q + 1 + Given.runN dotB r by omega] at hX
        exact hX
      by_cases hc : hexB c = true
      · exact Ev.yes ((hexJ_pos c).2 hc) (go (by unfold dotB; rw [hc]; rfl))
      · refine Ev.no (fun e => hc ((hexJ_pos c).1 e)) ?_
        by_cases h46 : c = 46
        · exact Ev.yes (by rw [h46]; rfl) (go (by unfold dotB; rw [h46]; rfl))
        · refine Ev.no (fun e => h46 (u8_eq (n := 46) e (by decide))) ?_
          rw [run_stop (by unfold dotB; rw [Bool.eq_false_iff.2 hc, Bool.false_or]; exact beq_eq_false_iff_ne.2 h46)] at hX
          exact hX
theorem rnum_l1' (l : List UInt8) (hl : l.length ≤ 1000000) (p q : Nat) (h1 : p ≤ q) (h2 : q ≤ l.length) : Ev (fun k => casketref11_number.l1 k (bs l) (p : Int) (q : Int)) (refT (floatTok ((l.drop p).take (q - p + Given.runN isDig (l.drop q)))) p) := by
  have hle := runN_le isDig (l.drop q)
  rw [List.length_drop] at hle
  refine rnum_l1 l hl p _ _ _ q (Nat.le_refl _) rfl h2 ?_
  have := rnum_j7 l hl p (q + Given.runN isDig (l.drop q)) (by omega) (by omega)
  rw [show q + Given.runN isDig (l.drop q) - p = q - p + Given.runN isDig (l.drop q) by omega] at this
  exact this
theorem rnum_j4 (l : List UInt8) (hl : l.length ≤ 1000000) (p n : Nat) (h1 : p ≤ n) (h2 : n ≤ l.length) :
    Ev (fun k => casketref11_number.j4 k (bs l) (p : Int) (n : Int) (decide ((l.drop n).head? = some 43 ∨ (l.drop n).head? = some 45))) (refT (floatTok ((l.drop p).take (n - p + expN (l.drop n)))) p) := by
  refine Ev.step (fun k => by rw [casketref11_number.j4]) ?_
  have other : ¬ ((l.drop n).head? = some 43 ∨ (l.drop n).head? = some 45) → expN (l.drop n) = Given.runN isDig (l.drop n) := by
    intro h
    generalize l.drop n = q at h
    unfold expN
    split
    · exact absurd (.inl rfl) h
    · exact absurd (.inr rfl) h
    · rfl
  by_cases hs : (l.drop n).head? = some 43 ∨ (l.drop n).head? = some 45
  · refine Ev.yes (decide_eq_true hs) ?_
    cases h : l.drop n with
    | nil => rw [h] at hs; simp at hs
    | cons c r =>
      rw [h] at hs
      obtain ⟨g1, g2, g3⟩ := drop_cons h
      have hc : c = 43 ∨ c = 45 := by simpa using hs
      have e1 : expN (c :: r) = 1 + Given.runN isDig (l.drop (n + 1)) := by
        rw [g3]
        rcases hc with rfl | rfl <;> rfl
      rw [e1, w64 (by omega) (by omega)]
      refine Ev.step (fun k => by rw [casketref11_number.j5]) ?_
      have := rnum_l1' l hl p (n + 1) (by omega) (by omega)
      rw [show n + 1 - p + Given.runN isDig (l.drop (n + 1)) = n - p + (1 + Given.runN isDig (l.drop (n + 1))) by omega] at this
      exact this
  · rw [other hs]
    refine Ev.no (by simpa using hs) ?_
    refine Ev.step (fun k => by rw [casketref11_number.j5]) ?_
    exact rnum_l1' l hl p n h1 h2
theorem rnum_j3 (l : List UInt8) (hl : l.length ≤ 1000000) (p n : Nat) (h1 : p ≤ n) (h2 : n ≤ l.length) :
    Ev (fun k => casketref11_number.j3 k (bs l) (p : Int) (n : Int) (decide ((l.drop n).head? = some 112))) (refT (floatTok ((l.drop p).take (n - p + tailN (l.drop n)))) p) := by
  refine Ev.step (fun k => by rw [casketref11_number.j3]) ?_
  by_cases hp : (l.drop n).head? = some 112
  · cases h : l.drop n with
    | nil => rw [h] at hp; simp at hp
    | cons c r =>
      rw [h] at hp
      have hc : c = 112 := by simpa using hp
      subst hc
      obtain ⟨g1, g2, g3⟩ := drop_cons h
      have e1 : n - p + tailN (112 :: r) = n + 1 - p + expN (l.drop (n + 1)) := by
        rw [g3]
        show n - p + (1 + expN r) = _
        omega
      rw [e1]
      have hj := rnum_j4 l hl p (n + 1) (by omega) (by omega)
      refine Ev.yes (by simp) ?_
      rw [w64 (x := (n : Int) + 1) (by omega) (by omega), bs_size]
      by_cases hlt : n + 1 < l.length
      · refine Ev.yes (by omega) (Ev.yes (by omega) ?_)
        have hb : bt (bs l) ((n : Int) + 1) = ((l.getD (n + 1) 0).toNat : Int) := bt_bs l (n + 1)
        rw [hb]
        cases r with
        | nil => have := congrArg List.length g3; simp at this; omega
        | cons d q =>
          obtain ⟨k1, _, _⟩ := drop_cons g3
          rw [k1]
          rw [g3] at hj
          by_cases h43 : d = 43
          · subst h43
            rw [g3]
            exact Ev.yes rfl hj
          · refine Ev.no (fun e => h43 (u8_eq (n := 43) e (by decide))) ?_
            have e2 : decide ((d :: q).head? = some 43 ∨ (d :: q).head? = some 45) = ((d.toNat : Int) == 45) := by
              by_cases h45 : d = 45
              · subst h45; rfl
              · rw [decide_eq_false (by simp [h43, h45])]
                exact (beq_eq_false_iff_ne.2 (fun e => h45 (u8_eq (n := 45) e (by decide)))).symm
            rw [e2] at hj
            rw [g3]
            exact hj
      · refine Ev.no (by omega) ?_
        have hnil : l.drop (n + 1) = [] := List.drop_eq_nil_of_le (by omega)
        rw [hnil] at hj ⊢
        exact hj
  · have e1 : tailN (l.drop n) = 0 := by
      generalize l.drop n = q at hp
      unfold tailN
      split
      · exact absurd rfl hp
      · rfl
    rw [e1, Nat.add_zero]
    exact Ev.no (by simpa using hp) (rnum_j7 l hl p n h1 h2)
theorem rnum_j2 (l : List UInt8) (hl : l.length ≤ 1000000) (p n : Nat) (h1 : p ≤ n) (h2 : n ≤ l.length) :
    Ev (fun k => casketref11_number.j2 k (bs l) (p : Int) (n : Int)) (refT (floatTok ((l.drop p).take (n - p + tailN (l.drop n)))) p) := by
  refine Ev.step (fun k => by rw [casketref11_number.j2]) ?_
  have hj := rnum_j3 l hl p n h1 h2
  by_cases hlt : n < l.length
  · refine Ev.yes (by rw [bs_size]; omega) (Ev.yes (by omega) ?_)
    rw [bt_bs]
    cases h : l.drop n with
    | nil => have := congrArg List.length h; simp at this; omega
    | cons c r =>
      obtain ⟨g1, _, _⟩ := drop_cons h
      rw [g1]
      rw [h] at hj
      have e : decide ((c :: r).head? = some 112) = ((c.toNat : Int) == 112) := by
        by_cases hc : c = 112
        · subst hc; rfl
        · rw [decide_eq_false (by simp [hc])]
          exact (beq_eq_false_iff_ne.2 (fun e => hc (u8_eq (n := 112) e (by decide)))).symm
      rw [e] at hj
      exact hj
  · refine Ev.no (by rw [bs_size]; omega) ?_
    have hnil : l.drop n = [] := List.drop_eq_nil_of_le (by omega)
    rw [hnil] at hj ⊢
    exact hj
theorem rnum_ev (l : List UInt8) (hl : l.length ≤ 1000000) (p : Nat) (c : UInt8) (r : List UInt8) (h : l.drop p = c :: r) (hc : isDig c = true) :
    Ev (fun k => casketref11_number.f k (bs l) (p : Int)) (refT (if Lib.hasPrefix (c :: r) [48, 120] = true then floatTok ((c :: r).take (dblN (c :: r))) else wholeTok ((c :: r).takeWhile isDig)) p) := by
  obtain ⟨h1, h2, h3⟩ := drop_cons h
  unfold casketref11_number.f
  refine Ev.yes (by omega) (Ev.yes (by rw [bs_size]; omega) ?_)
  rw [bt_bs, h1, w64 (x := (p : Int) + 1) (by omega) (by omega), bs_size]
  have yes : Lib.hasPrefix (c :: r) [48, 120] = true → Ev (fun k => casketref11_number.j0 k (bs l) (p : Int) (p : Int) true) (refT (floatTok ((c :: r).take (dblN (c :: r)))) p) := by
    intro hp
    refine Ev.step (fun k => by rw [casketref11_number.j0]) ?_
    refine Ev.yes rfl ?_
    rw [w64 (by omega) (by omega)]
    have hlen : 2 ≤ (c :: r).length := by
      rcases pre2 (c :: r) with ⟨_, q, hq, _⟩ | ⟨hn, _, _⟩
      · rw [hq]; simp
      · rw [hn] at hp; cases hp
    have hl2 : p + 2 ≤ l.length := by
      have := congrArg List.length h
      rw [List.length_drop] at this
      omega
    have hd2 : l.drop (p + 2) = (c :: r).drop 2 := by rw [← h, List.drop_drop]
    have hle := runN_le dotB (l.drop (p + 2))
    rw [List.length_drop] at hle
    refine rnum_l0 l hl p _ _ _ (p + 2) (Nat.le_refl _) rfl hl2 ?_
    have hj := rnum_j2 l hl p (p + 2 + Given.runN dotB (l.drop (p + 2))) (by omega) (by omega)
    have e : p + 2 + Given.runN dotB (l.drop (p + 2)) - p + tailN (l.drop (p + 2 + Given.runN dotB (l.drop (p + 2)))) = dblN (c :: r) := by
      unfold dblN
      rw [← hd2, ← h, List.drop_drop, show p + (2 + Given.runN dotB (l.drop (p + 2))) = p + 2 + Given.runN dotB (l.drop (p + 2)) by omega]
      omega
    rw [e, h] at hj
    exact hj
  have no : Lib.hasPrefix (c :: r) [48, 120] = false → Ev (fun k => casketref11_number.j0 k (bs l) (p : Int) (p : Int) false) (refT (wholeTok ((c :: r).takeWhile isDig)) p) := by
    intro hp
    refine Ev.step (fun k => by rw [casketref11_number.j0]) ?_
    refine Ev.no (by simp) ?_
    have hle := runN_le isDig (l.drop p)
    rw [List.length_drop] at hle
    refine rnum_l2 l hl p _ _ _ p (Nat.le_refl _) rfl (by omega) ?_
    have := rnum_j9 l hl p (p + Given.runN isDig (l.drop p)) (by omega) (by omega)
    rw [show p + Given.runN isDig (l.drop p) - p = Given.runN isDig (l.drop p) by omega, take_run, h] at this
    rw [h]
    exact this
  have pre : Lib.hasPrefix (c :: r) [48, 120] = true ↔ c = 48 ∧ r.head? = some 120 := by
    rcases pre2 (c :: r) with ⟨e1, q, hq, _⟩ | ⟨e1, _, h3'⟩
    · rw [e1]
      obtain ⟨rfl, rfl⟩ := List.cons.inj hq
      simp
    · rw [e1]
      constructor
      · intro h; cases h
      · rintro ⟨rfl, hr⟩
        cases r with
        | nil => simp at hr
        | cons d r => have : d = 120 := by simpa using hr
                      subst this
                      exact absurd rfl (h3' r)
  by_cases h48 : c = 48
  · subst h48
    refine Ev.yes rfl ?_
    by_cases hlt : p + 1 < l.length
    · refine Ev.yes (by omega) (Ev.yes (by omega) ?_)
      have hb : bt (bs l) ((p : Int) + 1) = ((l.getD (p + 1) 0).toNat : Int) := bt_bs l (p + 1)
      rw [hb]
      cases r with
      | nil => have := congrArg List.length h3; simp at this; omega
      | cons d q =>
        obtain ⟨k1, _, _⟩ := drop_cons h3
        rw [k1]
        by_cases hd : d = 120
        · subst hd
          have hp := pre.2 ⟨rfl, rfl⟩
          rw [if_pos hp]
          exact yes hp
        · have hp : Lib.hasPrefix (48 :: d :: q) [48, 120] = false := Bool.eq_false_iff.2 (fun e => hd (by simpa using (pre.1 e).2))
          have e120 : ((d.toNat : Int) == 120) = false := beq_eq_false_iff_ne.2 (fun e => hd (u8_eq (n := 120) e (by decide)))
          rw [hp, if_neg (by simp), e120]
          exact no hp
    · refine Ev.no (by omega) ?_
      have hr : r = [] := by
        have : l.drop (p + 1) = [] := List.drop_eq_nil_of_le (by omega)
        rw [← h3, this]
      subst hr
      have hp : Lib.hasPrefix [48] [48, 120] = false := rfl
      rw [hp, if_neg (by simp)]
      exact no hp
  · have hp : Lib.hasPrefix (c :: r) [48, 120] = false := Bool.eq_false_iff.2 (fun e => h48 (pre.1 e).1)
    rw [hp, if_neg (by simp)]
    exact Ev.no (fun e => h48 (u8_eq (n := 48) e (by decide))) (no hp)
end Go.Proofs.YtjolkombhdibcaaDoor.Sp
end
section
namespace Go.Proofs.YtjolkombhdibcaaDoor.Sp
open Go.RowKit Go.Proofs.YtjolkombhdibcaaDoorW.PrintWords Go.Proofs.YtjolkombhdibcaaDoorW.PrintMore Go.Proofs.YtjolkombhdibcaaDoor.Given Go.Proofs.YtjolkombhdibcaaDoor.Print
set_option linter.unusedVariables false
set_option linter.unusedSimpArgs false
theorem rt_fault (p : Nat) : Ev (fun k => ((casketref11_fault.f 61 (p : Int)).bind fun bt333 => (some ((bt333.1, bt333.2.1, bt333.2.2.1, bt333.2.2.2.1, bt333.2.2.2.2.1, bt333.2.2.2.2.2.1, bt333.2.2.2.2.2.2.1, bt333.2.2.2.2.2.2.2) : T8)))) (refT (bad 61) p) := by
  rw [refT_bad (by decide)]
  exact Ev.ret rfl
theorem rt_j1no (l : ByteArray) (p : Nat) (b : List Int) (x y : Int) : Ev (fun k => casketref11_text.j1 k l (p : Int) b x y true) (refT (bad 61) p) := by
  refine Ev.step (fun k => by rw [casketref11_text.j1]) ?_
  exact Ev.yes rfl (rt_fault p)
theorem rt_j3no (l : ByteArray) (p : Nat) (b : List Int) (x : Int) : Ev (fun k => casketref11_text.j3 k l (p : Int) b x false) (refT (bad 61) p) := by
  refine Ev.step (fun k => by rw [casketref11_text.j3]) ?_
  exact Ev.no (by simp) (rt_fault p)
theorem wrapP {a b : Nat} (h : a + b ≤ 2000000) : wrap64 ((a : Int) + (b : Int)) = ((a + b : Nat) : Int) := by
  rw [w64 (by omega) (by omega)]; omega
theorem hexJ_some {c : UInt8} {v : Nat} (h : hexV c = some v) : hexJ c = (v : Int) := by unfold hexJ; rw [h]
theorem hexJ_none {c : UInt8} (h : hexV c = none) : hexJ c = -1 := by unfold hexJ; rw [h]
theorem nib_add {x y : Nat} (hx : x < 16) (hy : y < 16) : (wrap64 ((wrap64 (16 * (x : Int))) + (y : Int))) % 256 = ((UInt8.ofNat (16 * x + y)).toNat : Int) := by
  rw [w64 (x := 16 * (x : Int)) (by omega) (by omega), w64 (by omega) (by omega)]
  have : (UInt8.ofNat (16 * x + y)).toNat = 16 * x + y := by
    simp
    omega
  rw [this]
  omega
set_option maxHeartbeats 1000000 in
theorem rtext_l0 (l : List UInt8) (hl : l.length ≤ 1000000) (p : Nat) : ∀ (m : Nat) (r b : List UInt8) (n : Nat), r.length ≤ m → l.drop (p + n) = r → p + n ≤ l.length → b.length ≤ n →
    Ev (fun k => casketref11_text.l0 k (bs l) (p : Int) (un b) ((p + n : Nat) : Int)) (refT (qS r b n) p) := by
  intro m
  induction m with
  | zero =>
    intro r b n hm h hn hb
    have : r = [] := List.eq_nil_of_length_eq_zero (by omega)
    subst this
    have : l.length ≤ p + n := by have := List.drop_eq_nil_iff.1 h; omega
    refine Ev.step (fun k => by rw [casketref11_text.l0]) ?_
    rw [qS_nil]
    exact Ev.no (by rw [bs_size]; omega) (rt_fault p)
  | succ m ih =>
    intro r b n hm h hn hb
    cases r with
    | nil =>
      have : l.length ≤ p + n := by have := List.drop_eq_nil_iff.1 h; omega
      refine Ev.step (fun k => by rw [casketref11_text.l0]) ?_
      rw [qS_nil]
      exact Ev.no (by rw [bs_size]; omega) (rt_fault p)
    | cons c r =>
      obtain ⟨h1, h2, h3⟩ := drop_cons h
      have hm' : r.length ≤ m := by simpa using hm
      have e1 := Aside0.mk (show wrap64 (((p + n : Nat) : Int) + 1) = ((p + (n + 1) : Nat) : Int) from wrapP (a := p + n) (b := 1) (by omega))
      have hun := Aside0.mk (show (un b).length < 140737488355328 by rw [un_len]; omega)
      refine Ev.step (fun k => by rw [casketref11_text.l0]) ?_
      rw [e1.out, bt_bs, h1, bs_size]
      refine Ev.yes (by omega) (Ev.yes (by omega) ?_)
      rw [qS_cons]
      by_cases h34 : c = 34
      · rw [if_pos h34]
        refine Ev.yes (by rw [h34]; decide) (Ev.ret ?_)
        rw [str_un]
        exact (refT_tok 6 b 0 0 (n + 1) p).symm
      · rw [if_neg h34]
        refine Ev.no (fun e => h34 (u8_eq (n := 34) e (by decide))) ?_
        by_cases h92 : c = 92
        · have hn92 : c.toNat = 92 := by rw [h92]; decide
          rw [if_pos h92]
          refine Ev.no (by omega) ?_
          rw [decide_eq_false (show ¬ ((c.toNat : Int) > 126) by omega)]
          refine Ev.step (fun k => by rw [casketref11_text.j1]) ?_
          refine Ev.no (by simp) (Ev.yes (by omega) ?_)
          rw [e1.out, bs_size]
          cases r with
          | nil =>
            have : l.length ≤ p + n + 1 := by have := List.drop_eq_nil_iff.1 h3; omega
            exact Ev.yes (by omega) (rt_fault p)
          | cons d r1 =>
            obtain ⟨g1, g2, g3⟩ := drop_cons h3
            have z3 : l.drop (p + (n + 2)) = r1 := g3
            have z2 : p + (n + 2) ≤ l.length := g2
            have hr1 : r1.length = l.length - (p + n + 2) := by rw [← g3, List.length_drop]
            have e3 := Aside0.mk (show wrap64 (((p + (n + 1) : Nat) : Int) + 1) = ((p + (n + 2) : Nat) : Int) from wrapP (a := p + (n + 1)) (b := 1) (by omega))
            have e4 := Aside0.mk (show wrap64 (((p + (n + 1) : Nat) : Int) + 2) = ((p + (n + 3) : Nat) : Int) from wrapP (a := p + (n + 1)) (b := 2) (by omega))
            have e5 := Aside0.mk (show wrap64 (((p + (n + 3) : Nat) : Int) + 1) = ((p + (n + 4) : Nat) : Int) from wrapP (a := p + (n + 3)) (b := 1) (by omega))
            have s1 : ((p + (n + 1) : Nat) : Int) < (l.length : Int) := by omega
            have s0 : (0 : Int) ≤ ((p + (n + 1) : Nat) : Int) := by omega
            have bd : bt (bs l) ((p + (n + 1) : Nat) : Int) = (d.toNat : Int) := by rw [bt_bs]; exact congrArg (fun z : UInt8 => (z.toNat : Int)) g1
            refine Ev.no (by omega) (Ev.yes s0 (Ev.yes s1 ?_))
            rw [bd]
            dsimp only
            have good : (d = 92 ∨ d = 34) → Ev (fun k => casketref11_text.j2 k (bs l) (p : Int) (un b) ((p + (n + 1) : Nat) : Int) true) (refT (qS r1 (b ++ [d]) (n + 2)) p) := by
              intro hd
              refine Ev.step (fun k => by rw [casketref11_text.j2]) ?_
              rw [bs_size]
              refine Ev.yes rfl (Ev.yes s0 (Ev.yes s1 (Ev.yes hun.out ?_)))
              rw [bd, un_snoc, e3.out]
              exact ih r1 (b ++ [d]) (n + 2) (Nat.le_of_succ_le hm') z3 z2 (snoc_le hb d 2 (by decide))
            by_cases hd92 : d = 92
            · rw [if_pos (.inl hd92)]
              exact Ev.yes (by rw [hd92]; decide) (good (.inl hd92))
            · refine Ev.no (fun e => hd92 (u8_eq (n := 92) e (by decide))) ?_
              by_cases hd34 : d = 34
              · rw [if_pos (.inr hd34)]
                have := good (.inr hd34)
                rw [show ((d.toNat : Int) == 34) = true by rw [hd34]; decide]
                exact this
              · rw [if_neg (fun e => e.elim hd92 hd34)]
                have e34 : ((d.toNat : Int) == 34) = false := beq_eq_false_iff_ne.2 (fun e => hd34 (u8_eq (n := 34) e (by decide)))
                rw [e34]
                refine Ev.step (fun k => by rw [casketref11_text.j2]) ?_
                rw [bs_size]
                refine Ev.no (by simp) (Ev.yes s0 (Ev.yes s1 ?_))
                rw [bd]
                by_cases h110 : d = 110
                · rw [if_pos h110]
                  refine Ev.yes (by rw [h110]; decide) (Ev.yes hun.out ?_)
                  rw [e3.out]
                  have := ih r1 (b ++ [10]) (n + 2) (Nat.le_of_succ_le hm') z3 z2 (snoc_le hb 10 2 (by decide))
                  rw [← un_snoc] at this
                  exact this
                · rw [if_neg h110]
                  refine Ev.no (fun e => h110 (u8_eq (n := 110) e (by decide))) ?_
                  by_cases h120 : d = 120
                  · rw [if_pos h120]
                    refine Ev.yes (by rw [h120]; decide) ?_
                    rw [e4.out, e3.out]
                    match r1, hr1, z3, hm', z2 with
                    | [], hr1, _, _, z2 =>
                      have : r1.length = 0 ∨ True := .inr trivial
                      simp at hr1
                      exact Ev.no (by omega) (rt_j3no _ _ _ _)
                    | [a], hr1, _, _, z2 =>
                      simp at hr1
                      exact Ev.no (by omega) (rt_j3no _ _ _ _)
                    | a :: a2 :: r2, hr1, z3, hm', z2 =>
                      have hlen : p + (n + 4) ≤ l.length := by
                        simp at hr1
                        omega
                      obtain ⟨k1, k2, k3⟩ := drop_cons z3
                      obtain ⟨k4, k5, k6⟩ := drop_cons k3
                      have ba : bt (bs l) ((p + (n + 2) : Nat) : Int) = (a.toNat : Int) := by rw [bt_bs]; exact congrArg (fun z : UInt8 => (z.toNat : Int)) k1
                      have ba2 : bt (bs l) ((p + (n + 3) : Nat) : Int) = (a2.toNat : Int) := by rw [bt_bs]; exact congrArg (fun z : UInt8 => (z.toNat : Int)) k4
                      have t0 : (0 : Int) ≤ ((p + (n + 2) : Nat) : Int) := by omega
                      have t1 : ((p + (n + 2) : Nat) : Int) < (l.length : Int) := by omega
                      have v0 : (0 : Int) ≤ ((p + (n + 3) : Nat) : Int) := by omega
                      have v1 : ((p + (n + 3) : Nat) : Int) < (l.length : Int) := by omega
                      refine Ev.yes v1 (Ev.yes t0 (Ev.yes t1 ?_))
                      rw [ba]
                      refine Ev.bind0 (rhex_f a) ?_
                      dsimp only
                      cases ha : hexV a with
                      | none => exact Ev.no (by rw [hexJ_none ha]; omega) (rt_j3no _ _ _ _)
                      | some x =>
                        refine Ev.yes (by rw [hexJ_some ha]; omega) (Ev.yes v0 ?_)
                        rw [ba2]
                        refine Ev.bind0 (rhex_f a2) ?_
                        cases ha2 : hexV a2 with
                        | none =>
                          rw [hexJ_none ha2, decide_eq_false (by omega)]
                          exact rt_j3no _ _ _ _
                        | some y =>
                          rw [hexJ_some ha2, decide_eq_true (by omega)]
                          refine Ev.step (fun k => by rw [casketref11_text.j3]) ?_
                          rw [e3.out, e4.out, bs_size, ba, ba2]
                          refine Ev.yes rfl (Ev.yes t0 (Ev.yes t1 (Ev.bind0 (rhex_f a) (Ev.yes v0 (Ev.yes v1 (Ev.bind0 (rhex_f a2) (Ev.yes hun.out ?_)))))))
                          rw [hexJ_some ha, hexJ_some ha2, nib_add (hexV_lt ha) (hexV_lt ha2), un_snoc, e5.out]
                          exact ih r2 _ (n + 4) (Nat.le_of_succ_le (Nat.le_of_succ_le (Nat.le_of_succ_le hm'))) k6 hlen (snoc_le hb _ 4 (by decide))
                  · rw [if_neg h120]
                    exact Ev.no (fun e => h120 (u8_eq (n := 120) e (by decide))) (rt_j3no _ _ _ _)
        · rw [if_neg h92]
          by_cases h32 : 32 ≤ c.toNat
          · refine Ev.no (by omega) ?_
            by_cases h126 : c.toNat ≤ 126
            · rw [if_pos ⟨h32, h126⟩, decide_eq_false (show ¬ ((c.toNat : Int) > 126) by omega)]
              refine Ev.step (fun k => by rw [casketref11_text.j1]) ?_
              refine Ev.no (by simp) (Ev.no (fun e => h92 (u8_eq (n := 92) e (by decide))) (Ev.yes hun.out ?_))
              rw [un_snoc, e1.out]
              exact ih r (b ++ [c]) (n + 1) hm' h3 h2 (snoc_le hb c 1 (by decide))
            · rw [if_neg (fun e => h126 e.2), decide_eq_true (show (c.toNat : Int) > 126 by omega)]
              exact rt_j1no _ _ _ _ _
          · rw [if_neg (fun e => h32 e.1)]
            exact Ev.yes (by omega) (rt_j1no _ _ _ _ _)
theorem rtext_ev (l : List UInt8) (hl : l.length ≤ 1000000) (p : Nat) (c : UInt8) (r : List UInt8) (h : l.drop p = c :: r) : Ev (fun k => casketref11_text.f k (bs l) (p : Int)) (refT (qS r [] 1) p) := by
  obtain ⟨h1, h2, h3⟩ := drop_cons h
  unfold casketref11_text.f
  have e1 : wrap64 ((p : Int) + 1) = ((p + 1 : Nat) : Int) := wrapP (a := p) (b := 1) (by omega)
  rw [e1]
  exact rtext_l0 l hl p _ r [] 1 (Nat.le_refl _) h3 h2 (by simp)
def marks2 : List (List UInt8) := [[61, 61], [33, 61], [60, 61], [62, 61], [60, 60], [62, 62], [47, 47], [46, 46]]
def marks1 : List (List UInt8) := [[43], [45], [42], [47], [37], [38], [124], [94], [126], [60], [62], [61], [40], [41], [123], [125], [91], [93], [44], [59], [58]]
theorem marks_split : marksL = marks2 ++ marks1 := rfl
theorem find_len (n : Nat) (l : List UInt8) : ∀ (ms : List (List UInt8)), (∀ m ∈ ms, m.length = n) → ms.find? (fun m => Lib.hasPrefix l m) = if n ≤ l.length ∧ l.take n ∈ ms then some (l.take n) else none
  | [], _ => by simp
  | m :: ms, h => by
    have hm := h m (by simp)
    have hp : Lib.hasPrefix l m = true ↔ (n ≤ l.length ∧ l.take n = m) := by
      unfold Lib.hasPrefix
      rw [List.isPrefixOf_iff_prefix, List.prefix_iff_eq_take, hm]
      constructor
      · intro e
        refine ⟨?_, e.symm⟩
        have := congrArg List.length e
        rw [hm, List.length_take] at this
        omega
      · rintro ⟨_, e⟩; exact e.symm
    rw [List.find?_cons]
    by_cases hc : Lib.hasPrefix l m = true
    · rw [hc]
      obtain ⟨h1, h2⟩ := hp.1 hc
      rw [if_pos ⟨h1, by rw [h2]; simp⟩, h2]
    · rw [Bool.eq_false_iff.2 hc]
      dsimp only
      rw [find_len n l ms (fun m hm => h m (by simp [hm]))]
      by_cases h1 : n ≤ l.length
      · have : l.take n ≠ m := fun e => hc (hp.2 ⟨h1, e⟩)
        simp [h1, this]
      · simp [h1]
theorem markT_eq (c : UInt8) (r : List UInt8) : markT (c :: r) =
    if 2 ≤ (c :: r).length ∧ (c :: r).take 2 ∈ marks2 then tok 3 ((c :: r).take 2) 0 0 2 else if [c] ∈ marks1 then tok 3 [c] 0 0 1 else bad 60 := by
  unfold markT markOf
  rw [marks_split, List.find?_append, find_len 2 _ marks2 (by decide), find_len 1 _ marks1 (by decide)]
  by_cases h2 : 2 ≤ (c :: r).length ∧ (c :: r).take 2 ∈ marks2
  · rw [if_pos h2, if_pos h2]
    dsimp only [Option.some_or]
    have : ((c :: r).take 2).length = 2 := by rw [List.length_take]; omega
    rw [this]; rfl
  · rw [if_neg h2, if_neg h2]
    have h1 : (c :: r).take 1 = [c] := rfl
    rw [h1]
    by_cases h3 : [c] ∈ marks1
    · rw [if_pos ⟨by simp, h3⟩, if_pos h3]; rfl
    · rw [if_neg (fun e => h3 e.2), if_neg h3]; rfl
theorem mem_marks (t : List UInt8) : t ∈ marksL ↔ (t ∈ marks2 ∨ t ∈ marks1) := by rw [marks_split]; exact List.mem_append
theorem len_marks2 : ∀ m ∈ marks2, m.length = 2 := by decide
theorem len_marks1 : ∀ m ∈ marks1, m.length = 1 := by decide
theorem rnext_marks (l : List UInt8) (hl : l.length ≤ 1000000) (p : Nat) (c : UInt8) (r : List UInt8) (h : l.drop p = c :: r) : Ev (fun k => casketref11_Next.l0 k (bs l) (p : Int) 2) (refT (markT (c :: r)) p) := by
  obtain ⟨h1, h2, h3⟩ := drop_cons h
  have hlen : (c :: r).length = l.length - p := by rw [← h, List.length_drop]
  have e2 : wrap64 ((p : Int) + 2) = ((p + 2 : Nat) : Int) := wrapP (a := p) (b := 2) (by omega)
  have e1 : wrap64 ((p : Int) + 1) = ((p + 1 : Nat) : Int) := wrapP (a := p) (b := 1) (by omega)
  rw [markT_eq]
  have one : ¬ (2 ≤ (c :: r).length ∧ (c :: r).take 2 ∈ marks2) → Ev (fun k => casketref11_Next.l0 k (bs l) (p : Int) (wrap64 (2 - 1))) (refT (if [c] ∈ marks1 then tok 3 [c] 0 0 1 else bad 60) p) := by
    intro hn
    rw [show wrap64 (2 - 1) = 1 from by rw [w64 (by omega) (by omega)]; rfl]
    refine Ev.step (fun k => by rw [casketref11_Next.l0]) ?_
    rw [e1, bs_size, Int.toNat_natCast, Int.toNat_natCast, cut_ext l (Nat.le_succ p), h, show p + 1 - p = 1 by omega]
    refine Ev.yes (by omega) (Ev.yes (by omega) (Ev.yes (by omega) (Ev.yes (by omega) ?_)))
    refine Ev.bind0 (rmark_f _) ?_
    have ht : (c :: r).take 1 = [c] := rfl
    rw [ht]
    by_cases hm : [c] ∈ marks1
    · rw [if_pos hm]
      refine Ev.yes (decide_eq_true ((mem_marks _).2 (.inr hm))) (Ev.ret ?_)
      exact (refT_tok 3 [c] 0 0 1 p).symm
    · rw [if_neg hm]
      refine Ev.no (by
        simp only [decide_eq_true_eq]
        intro e
        rcases (mem_marks _).1 e with e | e
        · have := len_marks2 _ e; simp at this
        · exact hm e) ?_
      rw [show wrap64 (1 - 1) = 0 from by rw [w64 (by omega) (by omega)]; rfl]
      refine Ev.step (fun k => by rw [casketref11_Next.l0]) ?_
      refine Ev.no (by omega) ?_
      rw [refT_bad (by decide)]
      exact Ev.ret rfl
  refine Ev.step (fun k => by rw [casketref11_Next.l0]) ?_
  rw [e2, bs_size]
  refine Ev.yes (by omega) ?_
  by_cases hl2 : p + 2 ≤ l.length
  · refine Ev.yes (by omega) (Ev.yes (by omega) (Ev.yes (by omega) ?_))
    rw [Int.toNat_natCast, Int.toNat_natCast, cut_ext l (by omega : p ≤ p + 2), h, show p + 2 - p = 2 by omega]
    refine Ev.bind0 (rmark_f _) ?_
    by_cases hm : (c :: r).take 2 ∈ marks2
    · rw [if_pos ⟨by omega, hm⟩]
      refine Ev.yes (decide_eq_true ((mem_marks _).2 (.inl hm))) (Ev.ret ?_)
      exact (refT_tok 3 _ 0 0 2 p).symm
    · rw [if_neg (fun e => hm e.2)]
      refine Ev.no (by
        simp only [decide_eq_true_eq]
        intro e
        rcases (mem_marks _).1 e with e | e
        · exact hm e
        · have := len_marks1 _ e; rw [List.length_take] at this; omega) ?_
      exact one (fun e => hm e.2)
  · rw [if_neg (fun e => by omega)]
    exact Ev.no (by omega) (one (fun e => by omega))
theorem rnext_ev (l : List UInt8) (hl : l.length ≤ 1000000) (p : Nat) (c : UInt8) (r : List UInt8) (h : l.drop p = c :: r) : Ev (fun k => casketref11_Next.f k (bs l) (p : Int)) (refT (nextT (c :: r)) p) := by
  obtain ⟨h1, h2, h3⟩ := drop_cons h
  have e := nextT_cons c r
  unfold casketref11_Next.f
  rw [bs_size, bt_bs, h1]
  refine Ev.no (by omega) (Ev.yes (by omega) (Ev.yes (by omega) (Ev.bind0 (starts_f c) ?_)))
  by_cases a1 : lowB c = true
  · rw [if_pos a1] at e
    rw [e]
    have := rname_ev l hl p (by omega)
    rw [h] at this
    exact Ev.yes a1 (Ev.bind this (Ev.ret rfl))
  · rw [if_neg a1] at e
    refine Ev.no a1 (Ev.bind0 (rdigit_f c) ?_)
    by_cases a3 : isDig c = true
    · refine Ev.yes a3 (Ev.bind (rnum_ev l hl p c r h a3) (Ev.ret ?_))
      rw [e]
      by_cases a2 : Lib.hasPrefix (c :: r) [48, 120] = true
      · rw [if_pos a2, if_pos a2]
      · rw [if_neg a2, if_neg a2, if_pos a3]
    · have a2 : ¬ Lib.hasPrefix (c :: r) [48, 120] = true := by
        intro hp
        rcases pre2 (c :: r) with ⟨_, q, hq, _⟩ | ⟨hn, _, _⟩
        · obtain ⟨rfl, _⟩ := List.cons.inj hq
          exact a3 (by decide)
        · rw [hn] at hp; cases hp
      rw [if_neg a2, if_neg a3] at e
      refine Ev.no a3 ?_
      by_cases a4 : c = 34
      · rw [if_pos a4] at e
        rw [e]
        exact Ev.yes (by rw [a4]; decide) (Ev.bind (rtext_ev l hl p c r h) (Ev.ret rfl))
      · rw [if_neg a4] at e
        rw [e]
        exact Ev.no (fun e => a4 (u8_eq (n := 34) e (by decide))) (rnext_marks l hl p c r h)
theorem rnext_end (l : List UInt8) : Ev (fun k => casketref11_Next.f k (bs l) ((l.length : Nat) : Int)) (7, (l.length : Int), bs [], 0, 0, (l.length : Int), 0, 0) := by
  unfold casketref11_Next.f
  exact Ev.yes (by rw [bs_size]) (Ev.ret rfl)
end Go.Proofs.YtjolkombhdibcaaDoor.Sp
end
section
namespace Go.Proofs.YtjolkombhdibcaaDoor.Sp
open Go.RowKit Go.Proofs.YtjolkombhdibcaaDoorW.PrintWords Go.Proofs.YtjolkombhdibcaaDoorW.PrintMore Go.Proofs.YtjolkombhdibcaaDoor.Given Go.Proofs.YtjolkombhdibcaaDoor.Print
set_option linter.unusedVariables false
set_option linter.unusedSimpArgs false
theorem line_of (c : UInt8) : lineB c = true ↔ c ≠ 10 := by unfold lineB; simp
theorem rblank_l1 (l : List UInt8) (hl : l.length ≤ 1000000) (X : Int) : ∀ (m : Nat) (r : List UInt8) (q : Nat), r.length ≤ m → l.drop q = r → q ≤ l.length →
    Ev (fun k => casketref11_Blank.l0 k (bs l) ((q + Given.runN lineB r : Nat) : Int)) X → Ev (fun k => casketref11_Blank.l1 k (bs l) (q : Int)) X := by
  intro m
  induction m with
  | zero =>
    intro r q hm h hq hX
    have : r = [] := List.eq_nil_of_length_eq_zero (by omega)
    subst this
    have : l.length ≤ q := by have := List.drop_eq_nil_iff.1 h; omega
    refine Ev.step (fun k => by rw [casketref11_Blank.l1]) ?_
    exact Ev.no (by rw [bs_size]; omega) hX
  | succ m ih =>
    intro r q hm h hq hX
    cases r with
    | nil =>
      have : l.length ≤ q := by have := List.drop_eq_nil_iff.1 h; omega
      refine Ev.step (fun k => by rw [casketref11_Blank.l1]) ?_
      exact Ev.no (by rw [bs_size]; omega) hX
    | cons c r =>
      obtain ⟨h1, h2, h3⟩ := drop_cons h
      refine Ev.step (fun k => by rw [casketref11_Blank.l1]) ?_
      refine Ev.yes (by rw [bs_size]; omega) (Ev.yes (by omega) ?_)
      rw [bt_bs, h1]
      by_cases hc : c = 10
      · refine Ev.yes (by rw [hc]; decide) ?_
        rw [run_stop (by rw [hc]; decide)] at hX
        exact hX
      · refine Ev.no (fun e => hc (u8_eq (n := 10) e (by decide))) ?_
        have e1 : wrap64 ((q : Int) + 1) = ((q + 1 : Nat) : Int) := wrapP (a := q) (b := 1) (by omega)
        rw [e1]
        refine ih r (q + 1) (by simpa using hm) h3 h2 ?_
        rw [run_cons ((line_of c).2 hc), show q + (1 + Given.runN lineB r) = q + 1 + Given.runN lineB r by omega] at hX
        exact hX
theorem rblank_ev (l : List UInt8) (hl : l.length ≤ 1000000) : ∀ (m p : Nat), l.length - p ≤ m → p ≤ l.length →
    ∃ q : Nat, p ≤ q ∧ q ≤ l.length ∧ Ev (fun k => casketref11_Blank.l0 k (bs l) (p : Int)) (q : Int) ∧ toks (l.drop p) p = toks (l.drop q) q ∧ (∀ c r, l.drop q = c :: r → ¬ blank c ∧ c ≠ 35) := by
  intro m
  induction m with
  | zero =>
    intro p hm hp
    have hd : l.drop p = [] := List.drop_eq_nil_of_le (by omega)
    refine ⟨p, Nat.le_refl _, hp, ?_, rfl, fun c r e => by rw [hd] at e; cases e⟩
    refine Ev.step (fun k => by rw [casketref11_Blank.l0]) ?_
    exact Ev.no (by rw [bs_size]; omega) (Ev.ret rfl)
  | succ m ih =>
    intro p hm hp
    cases h : l.drop p with
    | nil =>
      have : l.length ≤ p := by have := List.drop_eq_nil_iff.1 h; omega
      refine ⟨p, Nat.le_refl _, hp, ?_, by rw [h], fun c r e => by rw [h] at e; cases e⟩
      refine Ev.step (fun k => by rw [casketref11_Blank.l0]) ?_
      exact Ev.no (by rw [bs_size]; omega) (Ev.ret rfl)
    | cons c r =>
      obtain ⟨h1, h2, h3⟩ := drop_cons h
      have e1 : wrap64 ((p : Int) + 1) = ((p + 1 : Nat) : Int) := wrapP (a := p) (b := 1) (by omega)
      have start : ∀ X : Int, (Ev (fun k => casketref11_Blank.j1 k (bs l) (p : Int) (c.toNat : Int) (decide (blank c))) X) → Ev (fun k => casketref11_Blank.l0 k (bs l) (p : Int)) X := by
        intro X hX
        refine Ev.step (fun k => by rw [casketref11_Blank.l0]) ?_
        refine Ev.yes (by rw [bs_size]; omega) (Ev.yes (by omega) ?_)
        rw [bt_bs, h1]
        by_cases c32 : c = 32
        · rw [decide_eq_true (.inl c32)] at hX
          exact Ev.yes (by rw [c32]; decide) hX
        · refine Ev.no (fun e => c32 (u8_eq (n := 32) e (by decide))) ?_
          by_cases c9 : c = 9
          · rw [decide_eq_true (.inr (.inl c9))] at hX
            exact Ev.yes (by rw [c9]; decide) hX
          · refine Ev.no (fun e => c9 (u8_eq (n := 9) e (by decide))) ?_
            have : ((c.toNat : Int) == 10) = decide (blank c) := by
              by_cases c10 : c = 10
              · rw [decide_eq_true (.inr (.inr c10)), c10]; decide
              · rw [decide_eq_false (by rintro (h | h | h); exact c32 h; exact c9 h; exact c10 h)]
                exact beq_eq_false_iff_ne.2 (fun e => c10 (u8_eq (n := 10) e (by decide)))
            rw [this]
            exact hX
      by_cases hb : blank c
      · obtain ⟨q, q1, q2, q3, q4, q5⟩ := ih (p + 1) (by omega) h2
        refine ⟨q, by omega, q2, start _ ?_, ?_, q5⟩
        · rw [decide_eq_true hb]
          refine Ev.step (fun k => by rw [casketref11_Blank.j1]) ?_
          rw [e1]
          exact Ev.yes rfl q3
        · rw [toks_blank hb, ← h3]
          exact q4
      · by_cases h35 : c = 35
        · have hle := runN_le lineB r
          have hrl : r.length = l.length - (p + 1) := by rw [← h3, List.length_drop]
          obtain ⟨q, q1, q2, q3, q4, q5⟩ := ih (p + (1 + Given.runN lineB r)) (by omega) (by omega)
          refine ⟨q, by omega, q2, start _ ?_, ?_, q5⟩
          · rw [decide_eq_false hb]
            refine Ev.step (fun k => by rw [casketref11_Blank.j1]) ?_
            refine Ev.no (by simp) (Ev.yes (by rw [h35]; decide) ?_)
            refine rblank_l1 l hl _ _ (c :: r) p (Nat.le_refl _) h hp ?_
            rw [run_cons (by rw [h35]; decide)]
            exact q3
          · rw [h35, toks_hash, ← q4]
            congr 1
            rw [← h3, List.drop_drop, show p + 1 + Given.runN lineB (l.drop (p + 1)) = p + (1 + Given.runN lineB (l.drop (p + 1))) by omega]
        · refine ⟨p, Nat.le_refl _, hp, start _ ?_, by rw [h], fun c' r' e => ?_⟩
          · rw [decide_eq_false hb]
            refine Ev.step (fun k => by rw [casketref11_Blank.j1]) ?_
            exact Ev.no (by simp) (Ev.no (fun e => h35 (u8_eq (n := 35) e (by decide))) (Ev.ret rfl))
          · rw [h] at e
            obtain ⟨rfl, rfl⟩ := List.cons.inj e
            exact ⟨hb, h35⟩
theorem tok_kind (k : Int) (t : List UInt8) (i b n : Int) : (tok k t i b n).1 = k := rfl
theorem qS_kind : ∀ (m : Nat) (r b : List UInt8) (n : Nat), r.length ≤ m → te (qS r b n) = 0 → (qS r b n).1 = 6 := by
  intro m
  induction m with
  | zero =>
    intro r b n hm h
    have : r = [] := List.eq_nil_of_length_eq_zero (by omega)
    subst this
    rw [qS_nil] at h
    cases h
  | succ m ih =>
    intro r b n hm h
    cases r with
    | nil => rw [qS_nil] at h; cases h
    | cons c r =>
      have hm' : r.length ≤ m := by simpa using hm
      rw [qS_cons] at h ⊢
      by_cases h34 : c = 34
      · rw [if_pos h34]; rfl
      · rw [if_neg h34] at h ⊢
        by_cases h92 : c = 92
        · rw [if_pos h92] at h ⊢
          cases r with
          | nil => cases h
          | cons d r1 =>
            dsimp only at h ⊢
            have hm1 : r1.length ≤ m := by simp at hm'; omega
            by_cases hd : d = 92 ∨ d = 34
            · rw [if_pos hd] at h ⊢
              exact ih r1 _ _ hm1 h
            · rw [if_neg hd] at h ⊢
              by_cases h110 : d = 110
              · rw [if_pos h110] at h ⊢
                exact ih r1 _ _ hm1 h
              · rw [if_neg h110] at h ⊢
                by_cases h120 : d = 120
                · rw [if_pos h120] at h ⊢
                  match r1, hm1, h with
                  | [], _, h => cases h
                  | [a], _, h => cases h
                  | a :: a2 :: r2, hm1, h =>
                    dsimp only at h ⊢
                    cases ha : hexV a with
                    | none => rw [ha] at h; cases h
                    | some x =>
                      cases ha2 : hexV a2 with
                      | none => rw [ha, ha2] at h; cases h
                      | some y =>
                        rw [ha, ha2] at h
                        dsimp only at h ⊢
                        exact ih r2 _ _ (by simp at hm1; omega) h
                · rw [if_neg h120] at h; cases h
        · rw [if_neg h92] at h ⊢
          by_cases hc : 32 ≤ c.toNat ∧ c.toNat ≤ 126
          · rw [if_pos hc] at h ⊢
            exact ih r _ _ hm' h
          · rw [if_neg hc] at h; cases h
theorem next_kind (c : UInt8) (r : List UInt8) (h : te (nextT (c :: r)) = 0) : (nextT (c :: r)).1 ≠ 7 := by
  rw [nextT_cons] at h ⊢
  by_cases h1 : lowB c = true
  · rw [if_pos h1] at h ⊢
    unfold nameT at h ⊢
    by_cases a1 : 31 < ((c :: r).takeWhile nameB).length
    · rw [if_pos a1] at h; cases h
    · rw [if_neg a1] at h ⊢
      by_cases a2 : (c :: r).takeWhile nameB = [105, 110, 102] ∨ (c :: r).takeWhile nameB = [110, 97, 110]
      · rw [if_pos a2, tok_kind]; decide
      · rw [if_neg a2]
        by_cases a3 : (c :: r).takeWhile nameB ∈ wordsL
        · rw [if_pos a3, tok_kind]; decide
        · rw [if_neg a3, tok_kind]; decide
  · rw [if_neg h1] at h ⊢
    by_cases h2 : Lib.hasPrefix (c :: r) [48, 120] = true
    · rw [if_pos h2] at h ⊢
      unfold floatTok at h ⊢
      by_cases a1 : (pfS ((c :: r).take (dblN (c :: r)))).2 = 0
      · rw [if_pos a1, tok_kind]; decide
      · rw [if_neg a1] at h; cases h
    · rw [if_neg h2] at h ⊢
      by_cases h3 : isDig c = true
      · rw [if_pos h3] at h ⊢
        unfold wholeTok at h ⊢
        by_cases a1 : (parseIntT ((c :: r).takeWhile isDig)).2 = 0
        · rw [if_pos a1, tok_kind]; decide
        · rw [if_neg a1] at h; cases h
      · rw [if_neg h3] at h ⊢
        by_cases h4 : c = 34
        · rw [if_pos h4] at h ⊢
          rw [qS_kind _ r [] 1 (Nat.le_refl _) h]; decide
        · rw [if_neg h4] at h ⊢
          rw [markT_eq] at h ⊢
          by_cases a1 : 2 ≤ (c :: r).length ∧ (c :: r).take 2 ∈ marks2
          · rw [if_pos a1, tok_kind]; decide
          · rw [if_neg a1] at h ⊢
            by_cases a2 : [c] ∈ marks1
            · rw [if_pos a2, tok_kind]; decide
            · rw [if_neg a2] at h; cases h
theorem refT_ok {t : T7} (h : te t = 0) (p q : Nat) (hq : tn t = q) : refT t p = (t.1, (p : Int), t.2.2.1, t.2.2.2.1, t.2.2.2.2.1, ((p + q : Nat) : Int), 0, 0) := by
  unfold refT
  rw [if_pos h, hq]
  simp
theorem refT_no {t : T7} (h : te t ≠ 0) (p : Nat) : refT t p = (0, 0, bs [], 0, 0, (p : Int), te t, (p : Int)) := by
  unfold refT
  rw [if_neg h]
theorem rall_l0 (l : List UInt8) (hl : l.length ≤ 1000000) : ∀ (m p : Nat) (acc : List S30), l.length - p ≤ m → p ≤ l.length → acc.length ≤ p →
    Ev (fun k => casketref11_All.l0 k (bs l) acc (p : Int)) (col acc (toks (l.drop p) p)) := by
  intro m
  induction m with
  | zero =>
    intro p acc hm hp ha
    have hd : l.drop p = [] := List.drop_eq_nil_of_le (by omega)
    have hpl : p = l.length := by omega
    obtain ⟨q, q1, q2, q3, q4, q5⟩ := rblank_ev l hl 0 p hm hp
    have hq : q = l.length := by omega
    refine Ev.step (fun k => by rw [casketref11_All.l0]) ?_
    refine Ev.bind (a := (q : Int)) (by unfold casketref11_Blank.f; exact q3) ?_
    rw [hq]
    refine Ev.bind (rnext_end l) ?_
    have hacc := Aside0.mk (show acc.length < 2932031007402 by omega)
    refine Ev.yes rfl (Ev.yes hacc.out (Ev.bind0 rfl (Ev.yes rfl (Ev.ret ?_))))
    rw [hd, toks_nil, hpl]; rfl
  | succ m ih =>
    intro p acc hm hp ha
    obtain ⟨q, q1, q2, q3, q4, q5⟩ := rblank_ev l hl _ p (Nat.le_refl _) hp
    have hacc := Aside0.mk (show acc.length < 2932031007402 by omega)
    refine Ev.step (fun k => by rw [casketref11_All.l0]) ?_
    refine Ev.bind (a := (q : Int)) (by unfold casketref11_Blank.f; exact q3) ?_
    rw [q4]
    cases h : l.drop q with
    | nil =>
      have hq : q = l.length := by have := List.drop_eq_nil_iff.1 h; omega
      rw [hq]
      refine Ev.bind (rnext_end l) ?_
      refine Ev.yes rfl (Ev.yes hacc.out (Ev.bind0 rfl (Ev.yes rfl (Ev.ret ?_))))
      rw [toks_nil]; rfl
    | cons c r =>
      obtain ⟨h1, h2, h3⟩ := drop_cons h
      obtain ⟨hb, h35⟩ := q5 c r h
      refine Ev.bind (rnext_ev l hl q c r h) ?_
      by_cases ht : te (nextT (c :: r)) = 0
      · obtain ⟨n, n1, n2, n3⟩ := next_n c r ht
        have hlen : (c :: r).length = l.length - q := by rw [← h, List.length_drop]
        rw [refT_ok ht q n n1, toks_tok hb h35 r q n ht n1, col, if_pos rfl, ← h, List.drop_drop]
        refine Ev.yes rfl (Ev.yes hacc.out (Ev.bind0 rfl (Ev.no (by rw [h]; exact next_kind c r ht) ?_)))
        rw [h]
        exact ih (q + n) (acc ++ [tk (nextT (c :: r)) q]) (by omega) (by omega) (by simp; omega)
      · rw [refT_no ht, toks_bad hb h35 r q ht, col, if_neg ht]
        exact Ev.no ht (Ev.ret rfl)
theorem rall_ev (l : List UInt8) (hl : l.length ≤ 1000000) : Ev (fun k => casketref11_All.f k (bs l)) (allT l) := by
  unfold casketref11_All.f allT seqT
  rw [bs_size]
  by_cases h : 65536 < l.length
  · rw [if_pos h]
    exact Ev.yes (by omega) (Ev.ret rfl)
  · rw [if_neg h]
    exact Ev.no (by omega) (rall_l0 l hl _ 0 [] (Nat.le_refl _) (Nat.zero_le _) (Nat.le_refl _))
end Go.Proofs.YtjolkombhdibcaaDoor.Sp
end
section
namespace Go.Proofs.YtjolkombhdibcaaDoor.Sp
open Go.RowKit Go.Proofs.YtjolkombhdibcaaDoorW.PrintWords Go.Proofs.YtjolkombhdibcaaDoorW.PrintMore Go.Proofs.YtjolkombhdibcaaDoor.Given Go.Proofs.YtjolkombhdibcaaDoor.Print
set_option linter.unusedVariables false
set_option linter.unusedSimpArgs false
def awL : List UInt8 := [108, 101, 116, 32, 120, 61, 49, 46, 46, 50, 32, 35, 32, 121]
theorem toks_step {l : List UInt8} {p : Nat} (c : UInt8) (r m : List UInt8) (q : Nat) (hl : l = c :: r) (hb : ¬ blank c) (hc : c ≠ 35) (t : T7) (ht : nextT (c :: r) = t) (he : te t = 0) (hq : tn t = q) (hm : (c :: r).drop q = m) :
    toks l p = (tk t p, 0, 0) :: toks m (p + q) := by
  subst hl ht hm
  exact toks_tok hb hc r p q he hq
theorem aw1 : nextT awL = tok 2 [108, 101, 116] 0 0 3 := by decide +kernel
theorem aw2 : nextT [120, 61, 49, 46, 46, 50, 32, 35, 32, 121] = tok 1 [120] 0 0 1 := by decide +kernel
theorem aw3 : nextT [61, 49, 46, 46, 50, 32, 35, 32, 121] = tok 3 [61] 0 0 1 := by decide +kernel
theorem aw4 : nextT [49, 46, 46, 50, 32, 35, 32, 121] = tok 4 [] 1 0 1 := by decide +kernel
theorem aw5 : nextT [46, 46, 50, 32, 35, 32, 121] = tok 3 [46, 46] 0 0 2 := by decide +kernel
theorem aw6 : nextT [50, 32, 35, 32, 121] = tok 4 [] 2 0 1 := by decide +kernel
theorem aw_toks : toks awL 0 = [(tk (tok 2 [108, 101, 116] 0 0 3) 0, 0, 0), (tk (tok 1 [120] 0 0 1) 4, 0, 0), (tk (tok 3 [61] 0 0 1) 5, 0, 0), (tk (tok 4 [] 1 0 1) 6, 0, 0), (tk (tok 3 [46, 46] 0 0 2) 7, 0, 0), (tk (tok 4 [] 2 0 1) 9, 0, 0), endE 14] := by
  rw [toks_step (l := awL) 108 [101, 116, 32, 120, 61, 49, 46, 46, 50, 32, 35, 32, 121] [32, 120, 61, 49, 46, 46, 50, 32, 35, 32, 121] 3 rfl (by decide) (by decide) _ aw1 rfl rfl rfl]
  rw [toks_blank (c := 32) (.inl rfl)]
  rw [toks_step (l := [120, 61, 49, 46, 46, 50, 32, 35, 32, 121]) 120 [61, 49, 46, 46, 50, 32, 35, 32, 121] [61, 49, 46, 46, 50, 32, 35, 32, 121] 1 rfl (by decide) (by decide) _ aw2 rfl rfl rfl]
  rw [toks_step (l := [61, 49, 46, 46, 50, 32, 35, 32, 121]) 61 [49, 46, 46, 50, 32, 35, 32, 121] [49, 46, 46, 50, 32, 35, 32, 121] 1 rfl (by decide) (by decide) _ aw3 rfl rfl rfl]
  rw [toks_step (l := [49, 46, 46, 50, 32, 35, 32, 121]) 49 [46, 46, 50, 32, 35, 32, 121] [46, 46, 50, 32, 35, 32, 121] 1 rfl (by decide) (by decide) _ aw4 rfl rfl rfl]
  rw [toks_step (l := [46, 46, 50, 32, 35, 32, 121]) 46 [46, 50, 32, 35, 32, 121] [50, 32, 35, 32, 121] 2 rfl (by decide) (by decide) _ aw5 rfl rfl rfl]
  rw [toks_step (l := [50, 32, 35, 32, 121]) 50 [32, 35, 32, 121] [32, 35, 32, 121] 1 rfl (by decide) (by decide) _ aw6 rfl rfl rfl]
  rw [toks_blank (c := 32) (.inl rfl), toks_hash]
  have : Given.runN lineB [32, 121] = 2 := by decide
  rw [this, show ([32, 121] : List UInt8).drop 2 = [] from rfl, toks_nil]
theorem aw_all : allT awL = ([tk (tok 2 [108, 101, 116] 0 0 3) 0, tk (tok 1 [120] 0 0 1) 4, tk (tok 3 [61] 0 0 1) 5, tk (tok 4 [] 1 0 1) 6, tk (tok 3 [46, 46] 0 0 2) 7, tk (tok 4 [] 2 0 1) 9, (endE 14).1], 0, 0) := by
  unfold allT seqT
  rw [if_neg (by decide), aw_toks]
  rfl
theorem awake_f : casketlaw11_awake.f = some true := by
  unfold casketlaw11_awake.f
  have h : lex_All.f (⟨#[108, 101, 116, 32, 120, 61, 49, 46, 46, 50, 32, 35, 32, 121]⟩ : ByteArray) = some (allT awL) := all_f awL (by decide)
  rw [h, aw_all]
  decide +kernel
end Go.Proofs.YtjolkombhdibcaaDoor.Sp
end
