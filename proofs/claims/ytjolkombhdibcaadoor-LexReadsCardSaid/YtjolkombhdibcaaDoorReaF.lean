/- LexReads: the row, and the tied card: for every input the law answers true; the arguments read behind the call as before. The listed variables of Go's library are tied to the program's text (in a pruned copy of the project). -/
/- Packed by a program of this session (wip/tools/pack.py): the declarations of its texts that this claim needs. Not trusted: Lean checks it. -/
import Derived.Test.YtjolkombhdibcaaDoorReaE
import Derived.Test.YtjolkombhdibcaaDoorCards
import Derived.Test.YtjolkombhdibcaaDoorTie
import Derived.ChangeOld
import Derived.SizedLaws
import Derived.SevenTiedAt
import Derived.Lib.SmallJoins
import Derived.Deep.Strs
import Derived.Test.YtjolkombhdibcaaDoorChecked
section
namespace Go.Proofs.YtjolkombhdibcaaDoor.Print
open Go.RowKit Go.Proofs.YtjolkombhdibcaaDoor.Given Go.Proofs.YtjolkombhdibcaaDoorW.PrintWords Go.Proofs.YtjolkombhdibcaaDoorW.PrintLast Go.Proofs.YtjolkombhdibcaaDoorW.PrintMore
attribute [local go_sem] max2_int min2_int max_two min_two max_three min_three max_four min_four
set_option linter.unusedVariables false
set_option linter.unusedSimpArgs false
attribute [local go_sem high] eqA25 eqA30
theorem x67_28 {p : Prop} (h : p := by first | (with_reducible assumption) | assumption) : p := h
theorem x67_27 {p : Prop} (h : p := by first | rfl | (simp [errW_none, errW_some] <;> rfl) | (simp [*, errW_none, errW_some] <;> rfl)) : p := h
theorem x67_26 {p : Prop} (h : p := by (with_reducible repeat first | apply blk_drewN | apply blk_drew | apply blk_alloc); exact BK420.out) : p := h
theorem x67_25 {p : Prop} (h : p := by (with_reducible repeat first | apply blk_drewN | apply blk_drew | apply blk_alloc); exact BK410.out) : p := h
theorem x67_24 {p : Prop} (h : p := by (with_reducible repeat (first | apply Kd.R_alloc | apply Kd.R_drewN | apply Kd.R_drew)); exact HO_4.out) : p := h
theorem x67_23 {p : Prop} (h : p := by (with_reducible repeat (first | apply Kd.R_alloc | apply Kd.R_drewN | apply Kd.R_drew)); exact HO427.out) : p := h
theorem x67_22 {p : Prop} (h : p := by first | (rw [add_block]; exact hn434_1) | (show (Addr.add _ _).block ≠ _; rw [add_block]; exact hn434_1) | exact hn434_1) : p := h
theorem x67_21 {p : Prop} (h : p := by first | (rw [add_block]; exact hn434_0) | (show (Addr.add _ _).block ≠ _; rw [add_block]; exact hn434_0) | exact hn434_0) : p := h
theorem x67_20 {p : Prop} (h : p := by first | (rw [add_block]; exact hn433_1) | (show (Addr.add _ _).block ≠ _; rw [add_block]; exact hn433_1) | exact hn433_1) : p := h
theorem x67_19 {p : Prop} (h : p := by first | (rw [add_block]; exact hn433_0) | (show (Addr.add _ _).block ≠ _; rw [add_block]; exact hn433_0) | exact hn433_0) : p := h
theorem x67_18 {p : Prop} (h : p := by first | (rw [add_block]; exact hn432_1) | (show (Addr.add _ _).block ≠ _; rw [add_block]; exact hn432_1) | exact hn432_1) : p := h
theorem x67_17 {p : Prop} (h : p := by first | (rw [add_block]; exact hn432_0) | (show (Addr.add _ _).block ≠ _; rw [add_block]; exact hn432_0) | exact hn432_0) : p := h
theorem x67_16 {p : Prop} (h : p := by first | (rw [add_block]; exact hn431_1) | (show (Addr.add _ _).block ≠ _; rw [add_block]; exact hn431_1) | exact hn431_1) : p := h
theorem x67_15 {p : Prop} (h : p := by first | (rw [add_block]; exact hn431_0) | (show (Addr.add _ _).block ≠ _; rw [add_block]; exact hn431_0) | exact hn431_0) : p := h
theorem x67_14 {p : Prop} (h : p := by rw [← hq_]; exact x67_25) : p := h
theorem x67_13 {p : Prop} (h : p := by rw [← hq_]; exact x67_24) : p := h
theorem x67_12 {p : Prop} (h : p := by repeat (first | (with_reducible first | exact HB.out | apply below_alloc | apply pw_below_drewN | apply below_drew1) | exact HB.out)) : p := h
theorem x67_11 {p : Prop} (h : p := by (try simp only [List.map_toArray, List.map_cons, List.map_nil]); first | done | rfl | (simp only [List.length_drop, List.length_take]; rfl)) : p := h
theorem x67_10 {p : Prop} (h : p := by first | exact Kd.R_nil _ _ _ _ _ | exact Kd.N_nil _ _ _ _ _ | exact Kd.V_nil _ _ _ _ _ | exact Kd.Q_nil _ _ _ _ _ | exact Kd.S_nil _ _ _ _ _) : p := h
theorem x67_9 {p : Prop} (h : p := by repeat (first | (with_reducible first | exact HB.out | apply below_alloc | apply pw_below_drewN | apply below_drew1 | refine below_set ?_ GE430.out) | exact HB.out)) : p := h
theorem x67_8 {p : Prop} (h : p := by repeat (first | (with_reducible first | exact HB.out | apply below_alloc | apply pw_below_drewN | apply below_drew1 | refine below_set ?_ GE410.out) | exact HB.out)) : p := h
theorem x67_7 {p : Prop} (h : p := by rw [← hq_]; exact x67_8) : p := h
theorem x67_6 {p : Prop} (h : p := by repeat (first | (with_reducible first | exact HB.out | apply below_alloc | apply pw_below_drewN | apply below_drew1 | refine below_set ?_ GE410.out | refine below_set ?_ GE420.out) | exact HB.out)) : p := h
theorem x67_5 {p : Prop} (h : p := by repeat (first | (with_reducible first | exact HB.out | apply below_alloc | apply pw_below_drewN | apply below_drew1 | refine below_set ?_ GE410.out | refine below_set ?_ GE420.out | refine below_set ?_ GE421.out) | exact HB.out)) : p := h
theorem x67_4 {p : Prop} (h : p := by first | exact Glob.at_ HG0.out x67_9 | exact Glob.at_ HG0.out (Below.refl _ _)) : p := h
theorem x67_3 {p : Prop} (h : p := by (with_reducible repeat (first | apply Kd.R_alloc | apply Kd.R_drewN | apply Kd.R_drew)); exact Kd.R_mono (Kd.R_far (p := ⟨gb421, 1, none⟩) (Kd.R_far (p := ⟨gb421, 0, none⟩) (Kd.R_far (p := ⟨gb420, 4, none⟩) (Kd.R_far (p := ⟨gb420, 3, none⟩) (Kd.R_far (p := ⟨gb420, 2, none⟩) (Kd.R_far (p := ⟨gb420, 1, none⟩) (Kd.R_far (p := ⟨gb420, 0, none⟩) (Kd.R_types (Kd.R_mono HO_4.out (fun k_ hk => (⟨hk, hk.2⟩ : _ ∧ k_ ≠ gb420))) BK421.out (by decide)) (fun _ hk => hk.1.2) (.int .i64 t412)) (fun _ hk => hk.1.2) (.int .i64 t413)) (fun _ hk => hk.1.2) (.string t414)) (fun _ hk => hk.1.2) (.int .i64 t415)) (fun _ hk => hk.1.2) (.int .u64 t416)) (fun _ hk => hk.2) (.int .i64 t418)) (fun _ hk => hk.2) (.int .i64 t419)) (fun _ hk => hk.1.1.2)) : p := h
theorem x67_2 {p : Prop} (h : p := by (with_reducible repeat first | apply blk_drewN | apply blk_drew | apply blk_alloc); refine blk_far ?_ NB410_421.out _; (with_reducible repeat first | apply blk_drewN | apply blk_drew | apply blk_alloc); refine blk_far ?_ NB410_421.out _; (with_reducible repeat first | apply blk_drewN | apply blk_drew | apply blk_alloc); refine blk_far ?_ NB410_420.out _; (with_reducible repeat first | apply blk_drewN | apply blk_drew | apply blk_alloc); refine blk_far ?_ NB410_420.out _; (with_reducible repeat first | apply blk_drewN | apply blk_drew | apply blk_alloc); refine blk_far ?_ NB410_420.out _; (with_reducible repeat first | apply blk_drewN | apply blk_drew | apply blk_alloc); refine blk_far ?_ NB410_420.out _; (with_reducible repeat first | apply blk_drewN | apply blk_drew | apply blk_alloc); refine blk_far ?_ NB410_420.out _; (with_reducible repeat first | apply blk_drewN | apply blk_drew | apply blk_alloc); exact BK410.out) : p := h
theorem x67_1 {p : Prop} (h : p := by (with_reducible repeat first | apply blk_drewN | apply blk_drew | apply blk_alloc); refine blk_put (cs := #[.int .i64 t418, .int .i64 0]) ?_ 1 _ rfl; (with_reducible repeat first | apply blk_drewN | apply blk_drew | apply blk_alloc); refine blk_put (cs := #[.int .i64 0, .int .i64 0]) ?_ 0 _ rfl; (with_reducible repeat first | apply blk_drewN | apply blk_drew | apply blk_alloc); refine blk_far ?_ NB421_420.out _; (with_reducible repeat first | apply blk_drewN | apply blk_drew | apply blk_alloc); refine blk_far ?_ NB421_420.out _; (with_reducible repeat first | apply blk_drewN | apply blk_drew | apply blk_alloc); refine blk_far ?_ NB421_420.out _; (with_reducible repeat first | apply blk_drewN | apply blk_drew | apply blk_alloc); refine blk_far ?_ NB421_420.out _; (with_reducible repeat first | apply blk_drewN | apply blk_drew | apply blk_alloc); refine blk_far ?_ NB421_420.out _; (with_reducible repeat first | apply blk_drewN | apply blk_drew | apply blk_alloc); exact BK421.out) : p := h
theorem x67_0 {p : Prop} (h : p := by (with_reducible repeat first | apply blk_drewN | apply blk_drew | apply blk_alloc); refine blk_far ?_ NB420_421.out _; (with_reducible repeat first | apply blk_drewN | apply blk_drew | apply blk_alloc); refine blk_far ?_ NB420_421.out _; (with_reducible repeat first | apply blk_drewN | apply blk_drew | apply blk_alloc); refine blk_put (cs := #[.int .i64 t412, .int .i64 t413, .string t414, .int .i64 t415, .int .u64 0]) ?_ 4 _ rfl; (with_reducible repeat first | apply blk_drewN | apply blk_drew | apply blk_alloc); refine blk_put (cs := #[.int .i64 t412, .int .i64 t413, .string t414, .int .i64 0, .int .u64 0]) ?_ 3 _ rfl; (with_reducible repeat first | apply blk_drewN | apply blk_drew | apply blk_alloc); refine blk_put (cs := #[.int .i64 t412, .int .i64 t413, .string (⟨#[]⟩ : ByteArray), .int .i64 0, .int .u64 0]) ?_ 2 _ rfl; (with_reducible repeat first | apply blk_drewN | apply blk_drew | apply blk_alloc); refine blk_put (cs := #[.int .i64 t412, .int .i64 0, .string (⟨#[]⟩ : ByteArray), .int .i64 0, .int .u64 0]) ?_ 1 _ rfl; (with_reducible repeat first | apply blk_drewN | apply blk_drew | apply blk_alloc); refine blk_put (cs := #[.int .i64 0, .int .i64 0, .string (⟨#[]⟩ : ByteArray), .int .i64 0, .int .u64 0]) ?_ 0 _ rfl; (with_reducible repeat first | apply blk_drewN | apply blk_drew | apply blk_alloc); exact BK420.out) : p := h
def casketref11_All.l0 : Nat → ByteArray → List (S30) → Int → Option ((List (S30)) × Int × Int)
 | 0, _, _, _ => none
 | k + 1, x0, x4, x5 => (casketref11_Blank.f k x0 x5).bind fun t411 => ((casketref11_Next.f k x0 t411).bind fun bt412 => (if bt412.2.2.2.2.2.2.1 = 0 then (if x4.length < 2932031007402 then ((some (x4 ++ [(⟨bt412.1, bt412.2.1, bt412.2.2.1, bt412.2.2.2.1, bt412.2.2.2.2.1⟩ : S30)] : List (S30))).bind fun y422 => (if bt412.1 = 7 then (some (y422, 0, 0)) else (casketref11_All.l0 k x0 y422 bt412.2.2.2.2.2.1))) else (none)) else (some (([] : List (S30)), bt412.2.2.2.2.2.2.1, bt412.2.2.2.2.2.2.2))))
def casketref11_All.f (k : Nat) (a0 : ByteArray) : Option ((List (S30)) × Int × Int) := if (a0.size : Int) > 65536 then (some (([] : List (S30)), 2, 0)) else (casketref11_All.l0 k a0 ([] : List (S30)) 0)
set_option maxHeartbeats 8000000 in
set_option maxRecDepth 100000 in
theorem casketref11_All.calls (k : Nat) (a0 : ByteArray) (r1 : List (S30)) (r2 : Int) (r3 : Int) (w : World) (h : casketref11_All.f k a0 = some (r1, r2, r3)) :
  Calls Tryd.prog 8 #[.string a0] w fun e w' => ∃ v0_ : Value, e = .returned (.tuple #[v0_, .agg #[.int .i64 r2, .int .i64 r3]]) ∧ Kd.R k30 30 w' w.heap.size (fun _ => True) v0_ r1 ∧ Below w.heap.size w w' := by
 have hu25 := Tryd.underlying25
 have hu30 := Tryd.underlying30
 have HB := Aside0.mk (Below.refl w.heap.size w)
 have H : (if (a0.size : Int) > 65536 then (some (([] : List (S30)), 2, 0)) else (casketref11_All.l0 k a0 ([] : List (S30)) 0)) = some (r1, r2, r3) := h
 clear h
 by_cases c2 : (a0.size : Int) > 65536
 ·rw [if_pos c2] at H
  have c2b0 : decide (65536 < (a0.size : Int)) = true := decide_eq_true c2
  have c2b1 : decide (65536 < a0.size) = true := decide_eq_true (by omega)
  clear c2
  simp only [Option.some.injEq, Prod.mk.injEq] at H
  obtain ⟨rfl, rfl, rfl⟩ := H
  go_enter Tryd.func8, Tryd.ntmps8
  go_wp2_with (first | ((with_reducible refine gate_dst (N := 3) rfl ?_); refine box_event ?hg (N := 3) ?hd (cs := #[.int .i64 0, .int .i64 0]) (t := 25) ?hr ?_; (case hd => rfl); (case hg => rfl); (case hr => first | (go_simp; done) | (go_simp; rfl)); intro gb410 hg w3 hbox hb; have n0_ := Aside0.mk (below_step x67_12 hb); have n1_ := Aside0.mk (hbox); have n2_ := Aside0.mk ((by rw [hg]; exact (below_size x67_12) : w.heap.size ≤ gb410)); have n3_ := Aside0.mk ((by rw [hg]; exact (below_size x67_12) : w.heap.size ≤ gb410)); clear HB; have HB := n0_; have BK410 := n1_; have GW410 := n2_; have GE410 := n3_; clear n0_ n1_ n2_ n3_; clear hb hbox hg; have hcz4_0 : w3.cell? ⟨gb410, 0, none⟩ = some (.int .i64 0) := (blk_cell BK410.out 0).trans rfl; have hcz4_1 : w3.cell? ⟨gb410, 1, none⟩ = some (.int .i64 0) := (blk_cell BK410.out 1).trans rfl; have hfz4_0 := blk_frozen BK410.out 0; have hfz4_1 := blk_frozen BK410.out 1))
  refine bodyPost_ret (results_tc rfl _ _ gb410 25 #[.int .i64 2, .int .i64 0] (0, 0) _ rfl (by (with_reducible repeat first | apply blk_drewN | apply blk_drew | apply blk_alloc); refine blk_put (cs := #[.int .i64 2, .int .i64 0]) ?_ 1 _ rfl; (with_reducible repeat first | apply blk_drewN | apply blk_drew | apply blk_alloc); refine blk_put (cs := #[.int .i64 0, .int .i64 0]) ?_ 0 _ rfl; (with_reducible repeat first | apply blk_drewN | apply blk_drew | apply blk_alloc); exact BK410.out) Tryd.underlying25 rfl (by kernel_rfl)) rfl ?_
  exact ⟨_, x67_27, x67_10, x67_8⟩
 ·rw [if_neg c2] at H
  have c2b0 : decide (65536 < (a0.size : Int)) = false := decide_eq_false c2
  have c2b1 : decide (65536 < a0.size) = false := decide_eq_false (by omega)
  clear c2
  have H' := Aside0.mk H
  clear H
  go_enter Tryd.func8, Tryd.ntmps8
  go_wp2_with (first | ((with_reducible refine gate_dst (N := 3) rfl ?_); refine box_event ?hg (N := 3) ?hd (cs := #[.int .i64 0, .int .i64 0]) (t := 25) ?hr ?_; (case hd => rfl); (case hg => rfl); (case hr => first | (go_simp; done) | (go_simp; rfl)); intro gb410 hg w5 hbox hb; have n0_ := Aside0.mk (below_step x67_12 hb); have n1_ := Aside0.mk (hbox); have n2_ := Aside0.mk ((by rw [hg]; exact (below_size x67_12) : w.heap.size ≤ gb410)); have n3_ := Aside0.mk ((by rw [hg]; exact (below_size x67_12) : w.heap.size ≤ gb410)); clear HB; have HB := n0_; have BK410 := n1_; have GW410 := n2_; have GE410 := n3_; clear n0_ n1_ n2_ n3_; clear hb hbox hg))
  go_loopg [4, 5] k (fun kq v4 v5 w' => ∃ (x4_1 : List (S30)) (x5_1 : Int) (x411000_1 : Int) (x411001_1 : Int), v5 = .int .i64 x5_1 ∧ Aside0 (casketref11_All.l0 kq a0 x4_1 x5_1 = some (r1, r2, r3)) ∧ Aside0 (kq ≤ k) ∧ Aside0 (Kd.R k30 30 w' w.heap.size (fun _ => True) v4 x4_1) ∧ Aside0 (w'.heap[gb410]? = some (.cells #[.int .i64 x411000_1, .int .i64 x411001_1] 25 (0, 0))) ∧ Aside0 (Below w.heap.size w w'))
  case atStart => exact ⟨(([] : List (S30))), (0), (0), (0), (by first | rfl | (simp; done) | (simp [*]; done)), H', ⟨Nat.le_refl _⟩, ⟨x67_10⟩, ⟨x67_25⟩, ⟨x67_8⟩⟩
  case round =>
   clear H'
   obtain ⟨x4_1, x5_1, x411000_1, x411001_1, rfl, HA, HK1, HO_4, BK410, HB⟩ := hrel
   cases gk with
   | zero => exact absurd HA.out (by simp [casketref11_All.l0])
   | succ k1 =>
    have H := HA.out
    clear HA
    simp only [casketref11_All.l0] at H
    obtain ⟨t411, A60, H⟩ := Option.bind_eq_some_iff.mp H
    have A6 := Aside0.mk A60
    clear A60
    replace H := Option.bind_eq_some_iff.mp H
    obtain ⟨⟨t412, t413, t414, t415, t416, t417, t418, t419⟩, A70, H⟩ := H
    replace H : (if t418 = 0 then (if x4_1.length < 2932031007402 then ((some (x4_1 ++ [(⟨t412, t413, t414, t415, t416⟩ : S30)] : List (S30))).bind fun y422 => (if t412 = 7 then (some (y422, 0, 0)) else (casketref11_All.l0 k1 a0 y422 t417))) else (none)) else (some (([] : List (S30)), t418, t419))) = some (r1, r2, r3) := H
    have A7 := Aside0.mk A70
    clear A70
    by_cases c8 : t418 = 0
    ·rw [if_pos c8] at H
     have c8b0 := beq_iff_eq.mpr c8
     have c8b1 := bne_eq_false_iff_eq.mpr c8
     clear c8
     by_cases c9 : x4_1.length < 2932031007402
     ·rw [if_pos c9] at H
      have LMc9 := Aside0.mk c9
      clear c9
      obtain ⟨y422, hy422⟩ : ∃ y_ : List (S30), y_ = (x4_1 ++ [(⟨t412, t413, t414, t415, t416⟩ : S30)]) := ⟨_, rfl⟩
      replace H : (if t412 = 7 then (some (y422, 0, 0)) else (casketref11_All.l0 k1 a0 y422 t417)) = some (r1, r2, r3) := by first | (rw [hy422]; with_reducible exact H) | (have H2_ := (Option.bind_some _ _).symm.trans H; rw [hy422]; with_reducible exact H2_) | (have H2_ := (Option.bind_some _ _).symm.trans H; with_reducible exact H2_) | with_reducible exact H | (rw [hy422]; exact H) | exact H
      have Ny422 := Aside0.mk hy422
      clear hy422
      by_cases c10 : t412 = 7
      ·rw [if_pos c10] at H
       have c10b0 := beq_iff_eq.mpr c10
       have c10b1 := bne_eq_false_iff_eq.mpr c10
       clear c10
       simp only [Option.some.injEq, Prod.mk.injEq] at H
       obtain ⟨rfl, rfl, rfl⟩ := H
       go_wp2_with (first | ((with_reducible refine gate_callee (f := 15) rfl ?_); refine goesL_ (some 15) rfl rfl Tryd.func15 (by kernel_rfl) rfl #[.string a0, .int .i64 x5_1] rfl x67_11 ?_; (with_reducible refine (casketref11_Blank.calls k1 a0 x5_1 t411 _ A6.out).mono ?_); rintro e w' ⟨rfl, ⟨nd, rfl⟩⟩; refine ⟨_, rfl, ?_⟩; (try (rw [drewN_self wr]; generalize hq_ : World.drewN wr _ = wr; have n0_ : Aside0 (Kd.R k30 30 wr w.heap.size (fun _ => True) u4 x4_1) := ⟨x67_13⟩; have n1_ : Aside0 (wr.heap[gb410]? = some (.cells #[.int .i64 x411000_1, .int .i64 x411001_1] 25 (0, 0))) := ⟨x67_14⟩; have n2_ : Aside0 (Below w.heap.size w wr) := ⟨x67_7⟩; clear HO_4 BK410 HB hq_; have HO_4 := n0_; have BK410 := n1_; have HB := n2_; clear n0_ n1_ n2_))) | ((with_reducible refine gate_callee (f := 16) rfl ?_); refine goesL_ (some 19) rfl rfl Tryd.func16 (by kernel_rfl) rfl #[.string a0, .int .i64 t411] rfl x67_11 ?_; (with_reducible refine (casketref11_Next.calls k1 a0 t411 t412 t413 t414 t415 t416 t417 t418 t419 _ A7.out).mono ?_); rintro e w11 ⟨rfl, hb⟩; refine ⟨_, rfl, ?_⟩; have n0_ := Aside0.mk (Kd.R_below x67_24 hb); have n1_ := Aside0.mk (blk_below (g := gb410) (o := .cells #[.int .i64 x411000_1, .int .i64 x411001_1] 25 (0, 0)) x67_25 hb); have n2_ := Aside0.mk (below_step x67_8 hb); clear HO_4; clear BK410; clear HB; have HO_4 := n0_; have BK410 := n1_; have HB := n2_; clear n0_ n1_ n2_) | ((with_reducible refine gate_dst (N := 6) rfl ?_); refine box_event ?hg (N := 6) ?hd (cs := #[.int .i64 0, .int .i64 0, .string (⟨#[]⟩ : ByteArray), .int .i64 0, .int .u64 0]) (t := 30) ?hr ?_; (case hd => rfl); (case hg => rfl); (case hr => first | (go_simp; done) | (go_simp; rfl)); intro gb420 hg w12 hbox hb; have n0_ := Aside0.mk (Kd.R_below (Kd.R_elderB x67_24 gb420 (Nat.le_of_eq hg.symm)) hb); have n1_ := Aside0.mk (blk_below (g := gb410) (o := .cells #[.int .i64 x411000_1, .int .i64 x411001_1] 25 (0, 0)) x67_25 hb); have n2_ := Aside0.mk (below_step x67_8 hb); have n3_ := Aside0.mk (hbox); have n4_ := Aside0.mk ((by rw [hg]; exact (below_size x67_8) : w.heap.size ≤ gb420)); have n5_ := Aside0.mk ((by rw [hg]; exact (below_size x67_8) : w.heap.size ≤ gb420)); have n6_ := Aside0.mk ((by rw [hg]; exact Nat.ne_of_lt (blk_lt (g := gb410) (o := .cells #[.int .i64 x411000_1, .int .i64 x411001_1] 25 (0, 0)) x67_25) : gb410 ≠ gb420)); have n7_ := Aside0.mk ((by rw [hg]; exact Nat.ne_of_gt (blk_lt (g := gb410) (o := .cells #[.int .i64 x411000_1, .int .i64 x411001_1] 25 (0, 0)) x67_25) : gb420 ≠ gb410)); clear HO_4; clear BK410; clear HB; have HO_4 := n0_; have BK410 := n1_; have HB := n2_; have BK420 := n3_; have GW420 := n4_; have GE420 := n5_; have NB410_420 := n6_; have NB420_410 := n7_; clear n0_ n1_ n2_ n3_ n4_ n5_ n6_ n7_; clear hb hbox hg) | ((with_reducible refine gate_dst (N := 8) rfl ?_); refine box_event ?hg (N := 8) ?hd (cs := #[.int .i64 0, .int .i64 0]) (t := 25) ?hr ?_; (case hd => rfl); (case hg => rfl); (case hr => first | (go_simp; done) | (go_simp; rfl)); intro gb421 hg w13 hbox hb; have n0_ := Aside0.mk (Kd.R_below x67_24 hb); have n1_ := Aside0.mk (blk_below (g := gb410) (o := .cells #[.int .i64 x411000_1, .int .i64 x411001_1] 25 (0, 0)) x67_25 hb); have n2_ := Aside0.mk (blk_below (g := gb420) (o := .cells #[.int .i64 0, .int .i64 0, .string (⟨#[]⟩ : ByteArray), .int .i64 0, .int .u64 0] 30 (0, 0)) x67_26 hb); have n3_ := Aside0.mk (below_step x67_6 hb); have n4_ := Aside0.mk (hbox); have n5_ := Aside0.mk ((by rw [hg]; exact (below_size x67_6) : w.heap.size ≤ gb421)); have n6_ := Aside0.mk ((by rw [hg]; exact (below_size x67_6) : w.heap.size ≤ gb421)); have n7_ := Aside0.mk ((by rw [hg]; exact Nat.ne_of_lt (blk_lt (g := gb410) (o := .cells #[.int .i64 x411000_1, .int .i64 x411001_1] 25 (0, 0)) x67_25) : gb410 ≠ gb421)); have n8_ := Aside0.mk ((by rw [hg]; exact Nat.ne_of_gt (blk_lt (g := gb410) (o := .cells #[.int .i64 x411000_1, .int .i64 x411001_1] 25 (0, 0)) x67_25) : gb421 ≠ gb410)); have n9_ := Aside0.mk ((by rw [hg]; exact Nat.ne_of_lt (blk_lt (g := gb420) (o := .cells #[.int .i64 0, .int .i64 0, .string (⟨#[]⟩ : ByteArray), .int .i64 0, .int .u64 0] 30 (0, 0)) x67_26) : gb420 ≠ gb421)); have n10_ := Aside0.mk ((by rw [hg]; exact Nat.ne_of_gt (blk_lt (g := gb420) (o := .cells #[.int .i64 0, .int .i64 0, .string (⟨#[]⟩ : ByteArray), .int .i64 0, .int .u64 0] 30 (0, 0)) x67_26) : gb421 ≠ gb420)); clear HO_4; clear BK410; clear BK420; clear HB; have HO_4 := n0_; have BK410 := n1_; have BK420 := n2_; have HB := n3_; have BK421 := n4_; have GW421 := n5_; have GE421 := n6_; have NB410_421 := n7_; have NB421_410 := n8_; have NB420_421 := n9_; have NB421_420 := n10_; clear n0_ n1_ n2_ n3_ n4_ n5_ n6_ n7_ n8_ n9_ n10_; clear hb hbox hg; have hnb14 := NB420_410.out; have hnc14 := NB410_420.out; have hnb15 := NB420_421.out; have hnc15 := NB421_420.out; have hcz16_0 : w13.cell? ⟨gb420, 0, none⟩ = some (.int .i64 0) := (blk_cell BK420.out 0).trans rfl; have hcz16_1 : w13.cell? ⟨gb420, 1, none⟩ = some (.int .i64 0) := (blk_cell BK420.out 1).trans rfl; have hcz16_2 : w13.cell? ⟨gb420, 2, none⟩ = some (.string (⟨#[]⟩ : ByteArray)) := (blk_cell BK420.out 2).trans rfl; have hcz16_3 : w13.cell? ⟨gb420, 3, none⟩ = some (.int .i64 0) := (blk_cell BK420.out 3).trans rfl; have hcz16_4 : w13.cell? ⟨gb420, 4, none⟩ = some (.int .u64 0) := (blk_cell BK420.out 4).trans rfl; have hfz16_0 := blk_frozen BK420.out 0; have hfz16_1 := blk_frozen BK420.out 1; have hfz16_2 := blk_frozen BK420.out 2; have hfz16_3 := blk_frozen BK420.out 3; have hfz16_4 := blk_frozen BK420.out 4; have hnb17 := NB421_410.out; have hnc17 := NB410_421.out; have hcz18_0 : w13.cell? ⟨gb421, 0, none⟩ = some (.int .i64 0) := (blk_cell BK421.out 0).trans rfl; have hcz18_1 : w13.cell? ⟨gb421, 1, none⟩ = some (.int .i64 0) := (blk_cell BK421.out 1).trans rfl; have hfz18_0 := blk_frozen BK421.out 0; have hfz18_1 := blk_frozen BK421.out 1) | ((with_reducible refine gate_builtin (b := .append) (xs := #[.tmp 27, .tmp 29]) rfl ?_); at_builtin; refine Kd.R_append k30 (w0 := w) w.heap.size rfl (.tmp 27) (.tmp 29) 22 30 (.agg #[(.int .i64 0), (.int .i64 0), (.string ⟨#[]⟩), (.int .i64 0), (.int .u64 0)]) 48 rfl Tryd.underlying22 info30 rfl (by decide) (by omega) u4 x4_1 (⟨t412, t413, t414, t415, t416⟩ : S30) [.int .i64 t412, .int .i64 t413, .string t414, .int .i64 t415, .int .u64 t416] (fun k_ => k_ ≠ gb420) (fun _ => False) rfl (by first | (go_simp; done) | (go_simp; rfl)) ?aP (fun _ hk => hk.elim) ?aF ?aO ?aB ?aS ?aL ?_; (case aP => exact k30_mkM _ _ _ (⟨t412, t413, t414, t415, t416⟩ : S30)); (case aB => exact x67_5); (case aF => exact (fun k_ hk => Kd.freshB (g := gb420) (o := .cells #[.int .i64 t412, .int .i64 t413, .string t414, .int .i64 t415, .int .u64 t416] 30 (0, 0)) x67_0 k_ hk)); (case aO => exact x67_3); (case aS => exact (below_size x67_5)); (case aL => have := LMc9.out; omega); intro v423 w19 ho hb hg hat; rw [← Ny422.out] at ho; have n0_ := Aside0.mk (blk_grown (g := gb410) (o := .cells #[.int .i64 x411000_1, .int .i64 x411001_1] 25 (0, 0)) x67_2 hg (Kd.R_ne HO_4.out BK410.out (by decide))); have n1_ := Aside0.mk (blk_grown (g := gb420) (o := .cells #[.int .i64 t412, .int .i64 t413, .string t414, .int .i64 t415, .int .u64 t416] 30 (0, 0)) x67_0 hg (Kd.R_away HO_4.out (fun _ hk => hk.2))); have n2_ := Aside0.mk (blk_grown (g := gb421) (o := .cells #[.int .i64 t418, .int .i64 t419] 25 (0, 0)) x67_1 hg (Kd.R_ne HO_4.out BK421.out (by decide))); have n3_ := Aside0.mk (hb); have n4_ := Aside0.mk (ho); clear BK410; clear BK420; clear BK421; clear HB; clear HO_4; have BK410 := n0_; have BK420 := n1_; have BK421 := n2_; have HB := n3_; have HO424 := n4_; clear n0_ n1_ n2_ n3_ n4_; clear ho hb hg hat; have hcz20_0 : w19.cell? ⟨gb420, 0, none⟩ = some (.int .i64 t412) := (blk_cell BK420.out 0).trans rfl; have hcz20_1 : w19.cell? ⟨gb420, 1, none⟩ = some (.int .i64 t413) := (blk_cell BK420.out 1).trans rfl; have hcz20_2 : w19.cell? ⟨gb420, 2, none⟩ = some (.string t414) := (blk_cell BK420.out 2).trans rfl; have hcz20_3 : w19.cell? ⟨gb420, 3, none⟩ = some (.int .i64 t415) := (blk_cell BK420.out 3).trans rfl; have hcz20_4 : w19.cell? ⟨gb420, 4, none⟩ = some (.int .u64 t416) := (blk_cell BK420.out 4).trans rfl; have hfz20_0 := blk_frozen BK420.out 0; have hfz20_1 := blk_frozen BK420.out 1; have hfz20_2 := blk_frozen BK420.out 2; have hfz20_3 := blk_frozen BK420.out 3; have hfz20_4 := blk_frozen BK420.out 4; have hcz21_0 : w19.cell? ⟨gb410, 0, none⟩ = some (.int .i64 x411000_1) := (blk_cell BK410.out 0).trans rfl; have hcz21_1 : w19.cell? ⟨gb410, 1, none⟩ = some (.int .i64 x411001_1) := (blk_cell BK410.out 1).trans rfl; have hfz21_0 := blk_frozen BK410.out 0; have hfz21_1 := blk_frozen BK410.out 1))
       refine bodyPost_ret (results_tc rfl _ _ gb410 25 #[.int .i64 0, .int .i64 0] (0, 0) _ rfl (by (with_reducible repeat first | apply blk_drewN | apply blk_drew | apply blk_alloc); refine blk_put (cs := #[.int .i64 0, .int .i64 x411001_1]) ?_ 1 _ rfl; (with_reducible repeat first | apply blk_drewN | apply blk_drew | apply blk_alloc); refine blk_put (cs := #[.int .i64 x411000_1, .int .i64 x411001_1]) ?_ 0 _ rfl; (with_reducible repeat first | apply blk_drewN | apply blk_drew | apply blk_alloc); exact BK410.out) Tryd.underlying25 rfl (by kernel_rfl)) rfl ?_
       exact ⟨_, x67_27, by (with_reducible repeat (first | apply Kd.R_alloc | apply Kd.R_drewN | apply Kd.R_drew)); exact Kd.R_mono (Kd.R_far (p := ⟨gb410, 1, none⟩) (Kd.R_far (p := ⟨gb410, 0, none⟩) (Kd.R_types HO424.out BK410.out (by decide)) (fun _ hk => hk.2) (.int .i64 0)) (fun _ hk => hk.2) (.int .i64 0)) (fun _ hk => trivial), x67_5⟩
      ·rw [if_neg c10] at H
       have c10b0 := beq_eq_false_iff_ne.mpr c10
       have c10b1 := bne_iff_ne.mpr c10
       have H' := Aside0.mk H
       clear H
       go_wp2_with (first | ((with_reducible refine gate_callee (f := 15) rfl ?_); refine goesL_ (some 15) rfl rfl Tryd.func15 (by kernel_rfl) rfl #[.string a0, .int .i64 x5_1] rfl x67_11 ?_; (with_reducible refine (casketref11_Blank.calls k1 a0 x5_1 t411 _ A6.out).mono ?_); rintro e w' ⟨rfl, ⟨nd, rfl⟩⟩; refine ⟨_, rfl, ?_⟩; (try (rw [drewN_self wr]; generalize hq_ : World.drewN wr _ = wr; have n0_ : Aside0 (Kd.R k30 30 wr w.heap.size (fun _ => True) u4 x4_1) := ⟨x67_13⟩; have n1_ : Aside0 (wr.heap[gb410]? = some (.cells #[.int .i64 x411000_1, .int .i64 x411001_1] 25 (0, 0))) := ⟨x67_14⟩; have n2_ : Aside0 (Below w.heap.size w wr) := ⟨x67_7⟩; clear HO_4 BK410 HB hq_; have HO_4 := n0_; have BK410 := n1_; have HB := n2_; clear n0_ n1_ n2_))) | ((with_reducible refine gate_callee (f := 16) rfl ?_); refine goesL_ (some 19) rfl rfl Tryd.func16 (by kernel_rfl) rfl #[.string a0, .int .i64 t411] rfl x67_11 ?_; (with_reducible refine (casketref11_Next.calls k1 a0 t411 t412 t413 t414 t415 t416 t417 t418 t419 _ A7.out).mono ?_); rintro e w22 ⟨rfl, hb⟩; refine ⟨_, rfl, ?_⟩; have n0_ := Aside0.mk (Kd.R_below x67_24 hb); have n1_ := Aside0.mk (blk_below (g := gb410) (o := .cells #[.int .i64 x411000_1, .int .i64 x411001_1] 25 (0, 0)) x67_25 hb); have n2_ := Aside0.mk (below_step x67_8 hb); clear HO_4; clear BK410; clear HB; have HO_4 := n0_; have BK410 := n1_; have HB := n2_; clear n0_ n1_ n2_) | ((with_reducible refine gate_dst (N := 6) rfl ?_); refine box_event ?hg (N := 6) ?hd (cs := #[.int .i64 0, .int .i64 0, .string (⟨#[]⟩ : ByteArray), .int .i64 0, .int .u64 0]) (t := 30) ?hr ?_; (case hd => rfl); (case hg => rfl); (case hr => first | (go_simp; done) | (go_simp; rfl)); intro gb420 hg w23 hbox hb; have n0_ := Aside0.mk (Kd.R_below (Kd.R_elderB x67_24 gb420 (Nat.le_of_eq hg.symm)) hb); have n1_ := Aside0.mk (blk_below (g := gb410) (o := .cells #[.int .i64 x411000_1, .int .i64 x411001_1] 25 (0, 0)) x67_25 hb); have n2_ := Aside0.mk (below_step x67_8 hb); have n3_ := Aside0.mk (hbox); have n4_ := Aside0.mk ((by rw [hg]; exact (below_size x67_8) : w.heap.size ≤ gb420)); have n5_ := Aside0.mk ((by rw [hg]; exact (below_size x67_8) : w.heap.size ≤ gb420)); have n6_ := Aside0.mk ((by rw [hg]; exact Nat.ne_of_lt (blk_lt (g := gb410) (o := .cells #[.int .i64 x411000_1, .int .i64 x411001_1] 25 (0, 0)) x67_25) : gb410 ≠ gb420)); have n7_ := Aside0.mk ((by rw [hg]; exact Nat.ne_of_gt (blk_lt (g := gb410) (o := .cells #[.int .i64 x411000_1, .int .i64 x411001_1] 25 (0, 0)) x67_25) : gb420 ≠ gb410)); clear HO_4; clear BK410; clear HB; have HO_4 := n0_; have BK410 := n1_; have HB := n2_; have BK420 := n3_; have GW420 := n4_; have GE420 := n5_; have NB410_420 := n6_; have NB420_410 := n7_; clear n0_ n1_ n2_ n3_ n4_ n5_ n6_ n7_; clear hb hbox hg) | ((with_reducible refine gate_dst (N := 8) rfl ?_); refine box_event ?hg (N := 8) ?hd (cs := #[.int .i64 0, .int .i64 0]) (t := 25) ?hr ?_; (case hd => rfl); (case hg => rfl); (case hr => first | (go_simp; done) | (go_simp; rfl)); intro gb421 hg w24 hbox hb; have n0_ := Aside0.mk (Kd.R_below x67_24 hb); have n1_ := Aside0.mk (blk_below (g := gb410) (o := .cells #[.int .i64 x411000_1, .int .i64 x411001_1] 25 (0, 0)) x67_25 hb); have n2_ := Aside0.mk (blk_below (g := gb420) (o := .cells #[.int .i64 0, .int .i64 0, .string (⟨#[]⟩ : ByteArray), .int .i64 0, .int .u64 0] 30 (0, 0)) x67_26 hb); have n3_ := Aside0.mk (below_step x67_6 hb); have n4_ := Aside0.mk (hbox); have n5_ := Aside0.mk ((by rw [hg]; exact (below_size x67_6) : w.heap.size ≤ gb421)); have n6_ := Aside0.mk ((by rw [hg]; exact (below_size x67_6) : w.heap.size ≤ gb421)); have n7_ := Aside0.mk ((by rw [hg]; exact Nat.ne_of_lt (blk_lt (g := gb410) (o := .cells #[.int .i64 x411000_1, .int .i64 x411001_1] 25 (0, 0)) x67_25) : gb410 ≠ gb421)); have n8_ := Aside0.mk ((by rw [hg]; exact Nat.ne_of_gt (blk_lt (g := gb410) (o := .cells #[.int .i64 x411000_1, .int .i64 x411001_1] 25 (0, 0)) x67_25) : gb421 ≠ gb410)); have n9_ := Aside0.mk ((by rw [hg]; exact Nat.ne_of_lt (blk_lt (g := gb420) (o := .cells #[.int .i64 0, .int .i64 0, .string (⟨#[]⟩ : ByteArray), .int .i64 0, .int .u64 0] 30 (0, 0)) x67_26) : gb420 ≠ gb421)); have n10_ := Aside0.mk ((by rw [hg]; exact Nat.ne_of_gt (blk_lt (g := gb420) (o := .cells #[.int .i64 0, .int .i64 0, .string (⟨#[]⟩ : ByteArray), .int .i64 0, .int .u64 0] 30 (0, 0)) x67_26) : gb421 ≠ gb420)); clear HO_4; clear BK410; clear BK420; clear HB; have HO_4 := n0_; have BK410 := n1_; have BK420 := n2_; have HB := n3_; have BK421 := n4_; have GW421 := n5_; have GE421 := n6_; have NB410_421 := n7_; have NB421_410 := n8_; have NB420_421 := n9_; have NB421_420 := n10_; clear n0_ n1_ n2_ n3_ n4_ n5_ n6_ n7_ n8_ n9_ n10_; clear hb hbox hg; have hnb25 := NB420_410.out; have hnc25 := NB410_420.out; have hnb26 := NB420_421.out; have hnc26 := NB421_420.out; have hcz27_0 : w24.cell? ⟨gb420, 0, none⟩ = some (.int .i64 0) := (blk_cell BK420.out 0).trans rfl; have hcz27_1 : w24.cell? ⟨gb420, 1, none⟩ = some (.int .i64 0) := (blk_cell BK420.out 1).trans rfl; have hcz27_2 : w24.cell? ⟨gb420, 2, none⟩ = some (.string (⟨#[]⟩ : ByteArray)) := (blk_cell BK420.out 2).trans rfl; have hcz27_3 : w24.cell? ⟨gb420, 3, none⟩ = some (.int .i64 0) := (blk_cell BK420.out 3).trans rfl; have hcz27_4 : w24.cell? ⟨gb420, 4, none⟩ = some (.int .u64 0) := (blk_cell BK420.out 4).trans rfl; have hfz27_0 := blk_frozen BK420.out 0; have hfz27_1 := blk_frozen BK420.out 1; have hfz27_2 := blk_frozen BK420.out 2; have hfz27_3 := blk_frozen BK420.out 3; have hfz27_4 := blk_frozen BK420.out 4; have hnb28 := NB421_410.out; have hnc28 := NB410_421.out; have hcz29_0 : w24.cell? ⟨gb421, 0, none⟩ = some (.int .i64 0) := (blk_cell BK421.out 0).trans rfl; have hcz29_1 : w24.cell? ⟨gb421, 1, none⟩ = some (.int .i64 0) := (blk_cell BK421.out 1).trans rfl; have hfz29_0 := blk_frozen BK421.out 0; have hfz29_1 := blk_frozen BK421.out 1) | ((with_reducible refine gate_builtin (b := .append) (xs := #[.tmp 27, .tmp 29]) rfl ?_); at_builtin; refine Kd.R_append k30 (w0 := w) w.heap.size rfl (.tmp 27) (.tmp 29) 22 30 (.agg #[(.int .i64 0), (.int .i64 0), (.string ⟨#[]⟩), (.int .i64 0), (.int .u64 0)]) 48 rfl Tryd.underlying22 info30 rfl (by decide) (by omega) u4 x4_1 (⟨t412, t413, t414, t415, t416⟩ : S30) [.int .i64 t412, .int .i64 t413, .string t414, .int .i64 t415, .int .u64 t416] (fun k_ => k_ ≠ gb420) (fun _ => False) rfl (by first | (go_simp; done) | (go_simp; rfl)) ?aP (fun _ hk => hk.elim) ?aF ?aO ?aB ?aS ?aL ?_; (case aP => exact k30_mkM _ _ _ (⟨t412, t413, t414, t415, t416⟩ : S30)); (case aB => exact x67_5); (case aF => exact (fun k_ hk => Kd.freshB (g := gb420) (o := .cells #[.int .i64 t412, .int .i64 t413, .string t414, .int .i64 t415, .int .u64 t416] 30 (0, 0)) x67_0 k_ hk)); (case aO => exact x67_3); (case aS => exact (below_size x67_5)); (case aL => have := LMc9.out; omega); intro v423 w30 ho hb hg hat; rw [← Ny422.out] at ho; have n0_ := Aside0.mk (blk_grown (g := gb410) (o := .cells #[.int .i64 x411000_1, .int .i64 x411001_1] 25 (0, 0)) x67_2 hg (Kd.R_ne HO_4.out BK410.out (by decide))); have n1_ := Aside0.mk (blk_grown (g := gb420) (o := .cells #[.int .i64 t412, .int .i64 t413, .string t414, .int .i64 t415, .int .u64 t416] 30 (0, 0)) x67_0 hg (Kd.R_away HO_4.out (fun _ hk => hk.2))); have n2_ := Aside0.mk (blk_grown (g := gb421) (o := .cells #[.int .i64 t418, .int .i64 t419] 25 (0, 0)) x67_1 hg (Kd.R_ne HO_4.out BK421.out (by decide))); have n3_ := Aside0.mk (hb); have n4_ := Aside0.mk (ho); clear BK410; clear BK420; clear BK421; clear HB; clear HO_4; have BK410 := n0_; have BK420 := n1_; have BK421 := n2_; have HB := n3_; have HO424 := n4_; clear n0_ n1_ n2_ n3_ n4_; clear ho hb hg hat; have hcz31_0 : w30.cell? ⟨gb420, 0, none⟩ = some (.int .i64 t412) := (blk_cell BK420.out 0).trans rfl; have hcz31_1 : w30.cell? ⟨gb420, 1, none⟩ = some (.int .i64 t413) := (blk_cell BK420.out 1).trans rfl; have hcz31_2 : w30.cell? ⟨gb420, 2, none⟩ = some (.string t414) := (blk_cell BK420.out 2).trans rfl; have hcz31_3 : w30.cell? ⟨gb420, 3, none⟩ = some (.int .i64 t415) := (blk_cell BK420.out 3).trans rfl; have hcz31_4 : w30.cell? ⟨gb420, 4, none⟩ = some (.int .u64 t416) := (blk_cell BK420.out 4).trans rfl; have hfz31_0 := blk_frozen BK420.out 0; have hfz31_1 := blk_frozen BK420.out 1; have hfz31_2 := blk_frozen BK420.out 2; have hfz31_3 := blk_frozen BK420.out 3; have hfz31_4 := blk_frozen BK420.out 4))
       go_roundg k1
       case measure => have := HK1.out; omega
       case rel => exact ⟨(y422), (t417), (x411000_1), (x411001_1), (by first | rfl | (simp; done) | (simp [*]; done)), H', ⟨by have := HK1.out; omega⟩, ⟨by (with_reducible repeat (first | apply Kd.R_alloc | apply Kd.R_drewN | apply Kd.R_drew)); exact Kd.R_mono HO424.out (fun _ hk => trivial)⟩, ⟨x67_25⟩, ⟨x67_5⟩⟩
     ·rw [if_neg c9] at H
      exact absurd H (by simp)
    ·rw [if_neg c8] at H
     have c8b0 := beq_eq_false_iff_ne.mpr c8
     have c8b1 := bne_iff_ne.mpr c8
     simp only [Option.some.injEq, Prod.mk.injEq] at H
     obtain ⟨rfl, rfl, rfl⟩ := H
     try go_wp2_with (first | ((with_reducible refine gate_callee (f := 15) rfl ?_); refine goesL_ (some 15) rfl rfl Tryd.func15 (by kernel_rfl) rfl #[.string a0, .int .i64 x5_1] rfl x67_11 ?_; (with_reducible refine (casketref11_Blank.calls k1 a0 x5_1 t411 _ A6.out).mono ?_); rintro e w' ⟨rfl, ⟨nd, rfl⟩⟩; refine ⟨_, rfl, ?_⟩; (try (rw [drewN_self wr]; generalize hq_ : World.drewN wr _ = wr; have n0_ : Aside0 (Kd.R k30 30 wr w.heap.size (fun _ => True) u4 x4_1) := ⟨x67_13⟩; have n1_ : Aside0 (wr.heap[gb410]? = some (.cells #[.int .i64 x411000_1, .int .i64 x411001_1] 25 (0, 0))) := ⟨x67_14⟩; have n2_ : Aside0 (Below w.heap.size w wr) := ⟨x67_7⟩; clear HO_4 BK410 HB hq_; have HO_4 := n0_; have BK410 := n1_; have HB := n2_; clear n0_ n1_ n2_))) | ((with_reducible refine gate_callee (f := 16) rfl ?_); refine goesL_ (some 19) rfl rfl Tryd.func16 (by kernel_rfl) rfl #[.string a0, .int .i64 t411] rfl x67_11 ?_; (with_reducible refine (casketref11_Next.calls k1 a0 t411 t412 t413 t414 t415 t416 t417 t418 t419 _ A7.out).mono ?_); rintro e w32 ⟨rfl, hb⟩; refine ⟨_, rfl, ?_⟩; have n0_ := Aside0.mk (Kd.R_below x67_24 hb); have n1_ := Aside0.mk (blk_below (g := gb410) (o := .cells #[.int .i64 x411000_1, .int .i64 x411001_1] 25 (0, 0)) x67_25 hb); have n2_ := Aside0.mk (below_step x67_8 hb); clear HO_4; clear BK410; clear HB; have HO_4 := n0_; have BK410 := n1_; have HB := n2_; clear n0_ n1_ n2_) | ((with_reducible refine gate_dst (N := 6) rfl ?_); refine box_event ?hg (N := 6) ?hd (cs := #[.int .i64 0, .int .i64 0, .string (⟨#[]⟩ : ByteArray), .int .i64 0, .int .u64 0]) (t := 30) ?hr ?_; (case hd => rfl); (case hg => rfl); (case hr => first | (go_simp; done) | (go_simp; rfl)); intro gb420 hg w33 hbox hb; have n0_ := Aside0.mk (Kd.R_below (Kd.R_elderB x67_24 gb420 (Nat.le_of_eq hg.symm)) hb); have n1_ := Aside0.mk (blk_below (g := gb410) (o := .cells #[.int .i64 x411000_1, .int .i64 x411001_1] 25 (0, 0)) x67_25 hb); have n2_ := Aside0.mk (below_step x67_8 hb); have n3_ := Aside0.mk (hbox); have n4_ := Aside0.mk ((by rw [hg]; exact (below_size x67_8) : w.heap.size ≤ gb420)); have n5_ := Aside0.mk ((by rw [hg]; exact (below_size x67_8) : w.heap.size ≤ gb420)); have n6_ := Aside0.mk ((by rw [hg]; exact Nat.ne_of_lt (blk_lt (g := gb410) (o := .cells #[.int .i64 x411000_1, .int .i64 x411001_1] 25 (0, 0)) x67_25) : gb410 ≠ gb420)); have n7_ := Aside0.mk ((by rw [hg]; exact Nat.ne_of_gt (blk_lt (g := gb410) (o := .cells #[.int .i64 x411000_1, .int .i64 x411001_1] 25 (0, 0)) x67_25) : gb420 ≠ gb410)); clear HO_4; clear BK410; clear HB; have HO_4 := n0_; have BK410 := n1_; have HB := n2_; have BK420 := n3_; have GW420 := n4_; have GE420 := n5_; have NB410_420 := n6_; have NB420_410 := n7_; clear n0_ n1_ n2_ n3_ n4_ n5_ n6_ n7_; clear hb hbox hg) | ((with_reducible refine gate_dst (N := 8) rfl ?_); refine box_event ?hg (N := 8) ?hd (cs := #[.int .i64 0, .int .i64 0]) (t := 25) ?hr ?_; (case hd => rfl); (case hg => rfl); (case hr => first | (go_simp; done) | (go_simp; rfl)); intro gb421 hg w34 hbox hb; have n0_ := Aside0.mk (Kd.R_below x67_24 hb); have n1_ := Aside0.mk (blk_below (g := gb410) (o := .cells #[.int .i64 x411000_1, .int .i64 x411001_1] 25 (0, 0)) x67_25 hb); have n2_ := Aside0.mk (blk_below (g := gb420) (o := .cells #[.int .i64 0, .int .i64 0, .string (⟨#[]⟩ : ByteArray), .int .i64 0, .int .u64 0] 30 (0, 0)) x67_26 hb); have n3_ := Aside0.mk (below_step x67_6 hb); have n4_ := Aside0.mk (hbox); have n5_ := Aside0.mk ((by rw [hg]; exact (below_size x67_6) : w.heap.size ≤ gb421)); have n6_ := Aside0.mk ((by rw [hg]; exact (below_size x67_6) : w.heap.size ≤ gb421)); have n7_ := Aside0.mk ((by rw [hg]; exact Nat.ne_of_lt (blk_lt (g := gb410) (o := .cells #[.int .i64 x411000_1, .int .i64 x411001_1] 25 (0, 0)) x67_25) : gb410 ≠ gb421)); have n8_ := Aside0.mk ((by rw [hg]; exact Nat.ne_of_gt (blk_lt (g := gb410) (o := .cells #[.int .i64 x411000_1, .int .i64 x411001_1] 25 (0, 0)) x67_25) : gb421 ≠ gb410)); have n9_ := Aside0.mk ((by rw [hg]; exact Nat.ne_of_lt (blk_lt (g := gb420) (o := .cells #[.int .i64 0, .int .i64 0, .string (⟨#[]⟩ : ByteArray), .int .i64 0, .int .u64 0] 30 (0, 0)) x67_26) : gb420 ≠ gb421)); have n10_ := Aside0.mk ((by rw [hg]; exact Nat.ne_of_gt (blk_lt (g := gb420) (o := .cells #[.int .i64 0, .int .i64 0, .string (⟨#[]⟩ : ByteArray), .int .i64 0, .int .u64 0] 30 (0, 0)) x67_26) : gb421 ≠ gb420)); clear HO_4; clear BK410; clear BK420; clear HB; have HO_4 := n0_; have BK410 := n1_; have BK420 := n2_; have HB := n3_; have BK421 := n4_; have GW421 := n5_; have GE421 := n6_; have NB410_421 := n7_; have NB421_410 := n8_; have NB420_421 := n9_; have NB421_420 := n10_; clear n0_ n1_ n2_ n3_ n4_ n5_ n6_ n7_ n8_ n9_ n10_; clear hb hbox hg; have hnb35 := NB420_410.out; have hnc35 := NB410_420.out; have hnb36 := NB420_421.out; have hnc36 := NB421_420.out; have hcz37_0 : w34.cell? ⟨gb420, 0, none⟩ = some (.int .i64 0) := (blk_cell BK420.out 0).trans rfl; have hcz37_1 : w34.cell? ⟨gb420, 1, none⟩ = some (.int .i64 0) := (blk_cell BK420.out 1).trans rfl; have hcz37_2 : w34.cell? ⟨gb420, 2, none⟩ = some (.string (⟨#[]⟩ : ByteArray)) := (blk_cell BK420.out 2).trans rfl; have hcz37_3 : w34.cell? ⟨gb420, 3, none⟩ = some (.int .i64 0) := (blk_cell BK420.out 3).trans rfl; have hcz37_4 : w34.cell? ⟨gb420, 4, none⟩ = some (.int .u64 0) := (blk_cell BK420.out 4).trans rfl; have hfz37_0 := blk_frozen BK420.out 0; have hfz37_1 := blk_frozen BK420.out 1; have hfz37_2 := blk_frozen BK420.out 2; have hfz37_3 := blk_frozen BK420.out 3; have hfz37_4 := blk_frozen BK420.out 4; have hnb38 := NB421_410.out; have hnc38 := NB410_421.out; have hcz39_0 : w34.cell? ⟨gb421, 0, none⟩ = some (.int .i64 0) := (blk_cell BK421.out 0).trans rfl; have hcz39_1 : w34.cell? ⟨gb421, 1, none⟩ = some (.int .i64 0) := (blk_cell BK421.out 1).trans rfl; have hfz39_0 := blk_frozen BK421.out 0; have hfz39_1 := blk_frozen BK421.out 1))
     have n0_ : Aside0 (Kd.R k30 30 (((((((w34.setCell ⟨gb420, 0, none⟩ (.int .i64 t412)).setCell ⟨gb420, 1, none⟩ (.int .i64 t413)).setCell ⟨gb420, 2, none⟩ (.string t414)).setCell ⟨gb420, 3, none⟩ (.int .i64 t415)).setCell ⟨gb420, 4, none⟩ (.int .u64 t416)).setCell ⟨gb421, 0, none⟩ (.int .i64 t418)).setCell ⟨gb421, 1, none⟩ (.int .i64 t419)) w.heap.size (fun k_ => k_ ≠ gb420) u4 x4_1) := ⟨x67_3⟩
     have n1_ : Aside0 ((((((((w34.setCell ⟨gb420, 0, none⟩ (.int .i64 t412)).setCell ⟨gb420, 1, none⟩ (.int .i64 t413)).setCell ⟨gb420, 2, none⟩ (.string t414)).setCell ⟨gb420, 3, none⟩ (.int .i64 t415)).setCell ⟨gb420, 4, none⟩ (.int .u64 t416)).setCell ⟨gb421, 0, none⟩ (.int .i64 t418)).setCell ⟨gb421, 1, none⟩ (.int .i64 t419)).heap[gb410]? = some (.cells #[.int .i64 x411000_1, .int .i64 x411001_1] 25 (0, 0))) := ⟨x67_2⟩
     have n2_ : Aside0 ((((((((w34.setCell ⟨gb420, 0, none⟩ (.int .i64 t412)).setCell ⟨gb420, 1, none⟩ (.int .i64 t413)).setCell ⟨gb420, 2, none⟩ (.string t414)).setCell ⟨gb420, 3, none⟩ (.int .i64 t415)).setCell ⟨gb420, 4, none⟩ (.int .u64 t416)).setCell ⟨gb421, 0, none⟩ (.int .i64 t418)).setCell ⟨gb421, 1, none⟩ (.int .i64 t419)).heap[gb420]? = some (.cells #[.int .i64 t412, .int .i64 t413, .string t414, .int .i64 t415, .int .u64 t416] 30 (0, 0))) := ⟨x67_0⟩
     have n3_ : Aside0 ((((((((w34.setCell ⟨gb420, 0, none⟩ (.int .i64 t412)).setCell ⟨gb420, 1, none⟩ (.int .i64 t413)).setCell ⟨gb420, 2, none⟩ (.string t414)).setCell ⟨gb420, 3, none⟩ (.int .i64 t415)).setCell ⟨gb420, 4, none⟩ (.int .u64 t416)).setCell ⟨gb421, 0, none⟩ (.int .i64 t418)).setCell ⟨gb421, 1, none⟩ (.int .i64 t419)).heap[gb421]? = some (.cells #[.int .i64 t418, .int .i64 t419] 25 (0, 0))) := ⟨x67_1⟩
     have n4_ : Aside0 (Below w.heap.size w (((((((w34.setCell ⟨gb420, 0, none⟩ (.int .i64 t412)).setCell ⟨gb420, 1, none⟩ (.int .i64 t413)).setCell ⟨gb420, 2, none⟩ (.string t414)).setCell ⟨gb420, 3, none⟩ (.int .i64 t415)).setCell ⟨gb420, 4, none⟩ (.int .u64 t416)).setCell ⟨gb421, 0, none⟩ (.int .i64 t418)).setCell ⟨gb421, 1, none⟩ (.int .i64 t419))) := ⟨x67_5⟩
     (try clear HO_4)
     (try clear BK410)
     (try clear BK420)
     (try clear BK421)
     (try clear HB)
     generalize (((((((w34.setCell ⟨gb420, 0, none⟩ (.int .i64 t412)).setCell ⟨gb420, 1, none⟩ (.int .i64 t413)).setCell ⟨gb420, 2, none⟩ (.string t414)).setCell ⟨gb420, 3, none⟩ (.int .i64 t415)).setCell ⟨gb420, 4, none⟩ (.int .u64 t416)).setCell ⟨gb421, 0, none⟩ (.int .i64 t418)).setCell ⟨gb421, 1, none⟩ (.int .i64 t419)) = w40 at n0_ n1_ n2_ n3_ n4_ ⊢
     have HO_4 := n0_
     have BK410 := n1_
     have BK420 := n2_
     have BK421 := n3_
     have HB := n4_
     clear n0_ n1_ n2_ n3_ n4_
     have n0_ := Aside0.mk (Kd.R_drew HO_4.out)
     have n1_ := Aside0.mk (blk_drew BK410.out)
     have n2_ := Aside0.mk (blk_drew BK420.out)
     have n3_ := Aside0.mk (blk_drew BK421.out)
     have n4_ := Aside0.mk (below_drew1 HB.out)
     clear HO_4
     clear BK410
     clear BK420
     clear BK421
     clear HB
     have HO_4 := n0_
     have BK410 := n1_
     have BK420 := n2_
     have BK421 := n3_
     have HB := n4_
     clear n0_ n1_ n2_ n3_ n4_
     refine start_ (n := 3) (S := fun w' => w'.cell? ⟨gb421, 0, none⟩ = some (.int .i64 t418) ∧ w'.cell? ⟨gb421, 1, none⟩ = some (.int .i64 t419)) (ds := []) #[false, false, false] (by kernel_rfl) rfl rfl ⟨(blk_cell BK421.out 0).trans rfl, (blk_cell BK421.out 1).trans rfl⟩ (fun hHeld => ?_)
     generalize w40.drew = w41 at HO_4 BK410 BK420 BK421 HB hHeld ⊢
     refine pure_ (i := 1) (N := some 2) (v := ?_) (a' := ?_) #[false, true, false] rfl rfl (by kernel_rfl) (fun _ _ _ h => h) (Or.inl ⟨by rfl, ?_⟩) ?_ ?_
     rotate_left
     ·intro w'
      go_simp
      with_reducible rfl
     rotate_left
     ·simp only [Act.put, List.setIfInBounds_toArray, List.set_cons_zero, List.set_cons_succ, i64_w, i32_w]
      rfl
     refine take_ (i := 0) (N := some 26) (v := ?_) (a' := ?_) #[true, true, false] rfl rfl (by kernel_rfl) (fun _ _ _ h => h) (Or.inl ⟨by rfl, ?_⟩) hHeld ?_ ?_
     rotate_left
     ·rintro w' ⟨s0, s1⟩
      go_simp
      with_reducible rfl
     rotate_left
     ·simp only [Act.put, List.setIfInBounds_toArray, List.set_cons_zero, List.set_cons_succ, i64_w, i32_w]
      rfl
     refine one_ (i := 2) (N := none) #[true, true, true] rfl rfl (by kernel_rfl) (by decide) (fun K hK => ?_)
     have hs42 : w41.cell? ⟨gb410, 0, none⟩ = some (.int .i64 x411000_1) := (blk_cell BK410.out 0).trans rfl
     have hfs42 := blk_frozen BK410.out 0
     have hns42_1 := NB420_410.out
     have hns42_2 := NB421_410.out
     have hms42_1 := NB410_420.out
     have hms42_2 := NB410_421.out
     have hs43 : w41.cell? ⟨gb410, 1, none⟩ = some (.int .i64 x411001_1) := (blk_cell BK410.out 1).trans rfl
     have hfs43 := blk_frozen BK410.out 1
     have hns43_1 := NB420_410.out
     have hns43_2 := NB421_410.out
     have hms43_1 := NB410_420.out
     have hms43_2 := NB410_421.out
     refine skip_ (w1 := ?_) (by rfl) rfl ?_ ?_
     rotate_left
     ·go_simp
      rfl
     refine hK.out _ _ ⟨((cell_far (p := ⟨gb410, _, none⟩) NB421_410.out _).trans (((cell_far (p := ⟨gb410, _, none⟩) NB421_410.out _).trans (hHeld.1)))), ((cell_far (p := ⟨gb410, _, none⟩) NB421_410.out _).trans (((cell_far (p := ⟨gb410, _, none⟩) NB421_410.out _).trans (hHeld.2))))⟩ (fun hHeld => ?_)
     clear hK K
     refine done_ (by kernel_rfl) ?_
     try go_wp2
     refine bodyPost_ret (results_tc rfl _ _ gb410 25 #[.int .i64 t418, .int .i64 t419] (0, 0) _ rfl (by (with_reducible repeat first | apply blk_drewN | apply blk_drew | apply blk_alloc); refine blk_put (cs := #[.int .i64 t418, .int .i64 x411001_1]) ?_ 1 _ rfl; (with_reducible repeat first | apply blk_drewN | apply blk_drew | apply blk_alloc); refine blk_put (cs := #[.int .i64 x411000_1, .int .i64 x411001_1]) ?_ 0 _ rfl; (with_reducible repeat first | apply blk_drewN | apply blk_drew | apply blk_alloc); exact BK410.out) Tryd.underlying25 rfl (by kernel_rfl)) rfl ?_
     exact ⟨_, x67_27, x67_10, x67_5⟩
def casketlaw11_awake.f  : Option (Bool) := (lex_All.f (⟨#[108, 101, 116, 32, 120, 61, 49, 46, 46, 50, 32, 35, 32, 121]⟩ : ByteArray)).bind fun bt425 => (if (bt425.1.length : Int) = 7 then (if 1 < (bt425.1.length : Int) then (if (((rd_T30 bt425.1 1).f0) == 1 && (((rd_T30 bt425.1 1).f1) == 4 && ((((rd_T30 bt425.1 1).f2).toList) == ([120] : List UInt8) && (((rd_T30 bt425.1 1).f3) == 0 && (((rd_T30 bt425.1 1).f4) == 0))))) = true then (if 4 < (bt425.1.length : Int) then (if (((rd_T30 bt425.1 4).f0) == 3 && (((rd_T30 bt425.1 4).f1) == 7 && ((((rd_T30 bt425.1 4).f2).toList) == ([46, 46] : List UInt8) && (((rd_T30 bt425.1 4).f3) == 0 && (((rd_T30 bt425.1 4).f4) == 0))))) = true then (if 6 < (bt425.1.length : Int) then (if ((rd_T30 bt425.1 6).f0) = 7 then (if ((rd_T30 bt425.1 6).f1) = 14 then (some (bt425.2.1 == 0 && (bt425.2.2 == 0))) else (some false)) else (some false)) else (none)) else (some false)) else (none)) else (some false)) else (none)) else (some false))
set_option maxHeartbeats 8000000 in
set_option maxRecDepth 100000 in
theorem casketlaw11_awake.calls  (r : Bool) (w : World) (hG : Glob w) (h : casketlaw11_awake.f  = some r) :
  Calls Tryd.prog 12 #[] w fun e w' => e = .returned (.bool r) ∧ Below w.heap.size w w' := by
 have HG0 := Aside0.mk hG
 clear hG
 have hu25 := Tryd.underlying25
 have hu30 := Tryd.underlying30
 have HB := Aside0.mk (Below.refl w.heap.size w)
 have H : ((lex_All.f (⟨#[108, 101, 116, 32, 120, 61, 49, 46, 46, 50, 32, 35, 32, 121]⟩ : ByteArray)).bind fun bt425 => (if (bt425.1.length : Int) = 7 then (if 1 < (bt425.1.length : Int) then (if (((rd_T30 bt425.1 1).f0) == 1 && (((rd_T30 bt425.1 1).f1) == 4 && ((((rd_T30 bt425.1 1).f2).toList) == ([120] : List UInt8) && (((rd_T30 bt425.1 1).f3) == 0 && (((rd_T30 bt425.1 1).f4) == 0))))) = true then (if 4 < (bt425.1.length : Int) then (if (((rd_T30 bt425.1 4).f0) == 3 && (((rd_T30 bt425.1 4).f1) == 7 && ((((rd_T30 bt425.1 4).f2).toList) == ([46, 46] : List UInt8) && (((rd_T30 bt425.1 4).f3) == 0 && (((rd_T30 bt425.1 4).f4) == 0))))) = true then (if 6 < (bt425.1.length : Int) then (if ((rd_T30 bt425.1 6).f0) = 7 then (if ((rd_T30 bt425.1 6).f1) = 14 then (some (bt425.2.1 == 0 && (bt425.2.2 == 0))) else (some false)) else (some false)) else (none)) else (some false)) else (none)) else (some false)) else (none)) else (some false))) = some r := h
 clear h
 replace H := Option.bind_eq_some_iff.mp H
 obtain ⟨⟨t425, t428, t429⟩, A10, H⟩ := H
 replace H : (if (t425.length : Int) = 7 then (if 1 < (t425.length : Int) then (if (((rd_T30 t425 1).f0) == 1 && (((rd_T30 t425 1).f1) == 4 && ((((rd_T30 t425 1).f2).toList) == ([120] : List UInt8) && (((rd_T30 t425 1).f3) == 0 && (((rd_T30 t425 1).f4) == 0))))) = true then (if 4 < (t425.length : Int) then (if (((rd_T30 t425 4).f0) == 3 && (((rd_T30 t425 4).f1) == 7 && ((((rd_T30 t425 4).f2).toList) == ([46, 46] : List UInt8) && (((rd_T30 t425 4).f3) == 0 && (((rd_T30 t425 4).f4) == 0))))) = true then (if 6 < (t425.length : Int) then (if ((rd_T30 t425 6).f0) = 7 then (if ((rd_T30 t425 6).f1) = 14 then (some (t428 == 0 && (t429 == 0))) else (some false)) else (some false)) else (none)) else (some false)) else (none)) else (some false)) else (none)) else (some false)) = some r := H
 have A1 := Aside0.mk A10
 clear A10
 by_cases c2 : (t425.length : Int) = 7
 ·rw [if_pos c2] at H
  have c2b0 := beq_iff_eq.mpr c2
  have c2b1 := bne_eq_false_iff_eq.mpr c2
  clear c2
  by_cases c3 : 1 < (t425.length : Int)
  ·rw [if_pos c3] at H
   have c3b0 := decide_eq_true c3
   have c3b1 : decide (1 < t425.length) = true := decide_eq_true (by omega)
   clear c3
   by_cases c4 : (((rd_T30 t425 1).f0) == 1 && (((rd_T30 t425 1).f1) == 4 && ((((rd_T30 t425 1).f2).toList) == ([120] : List UInt8) && (((rd_T30 t425 1).f3) == 0 && (((rd_T30 t425 1).f4) == 0))))) = true
   ·rw [if_pos c4] at H
    have c4b0 : (((rd_T30 t425 1).f0) == 1 && (((rd_T30 t425 1).f1) == 4 && ((((rd_T30 t425 1).f2).toList) == ([120] : List UInt8) && (((rd_T30 t425 1).f3) == 0 && (((rd_T30 t425 1).f4) == 0))))) = true := c4
    (try (have c4b1 : decide (((rd_T30 t425 1).f0) = 1 && (((rd_T30 t425 1).f1) == 4 && ((((rd_T30 t425 1).f2).toList) == ([120] : List UInt8) && (((rd_T30 t425 1).f3) == 0 && (((rd_T30 t425 1).f4) == 0))))) = true := by simpa using c4))
    (try (have c4b2 : (((rd_T30 t425 1).f0) == 1 && (((rd_T30 t425 1).f1) == 4 && ((((rd_T30 t425 1).f2).toList) == ([120] : List UInt8) && (((rd_T30 t425 1).f3) == 0 && (((rd_T30 t425 1).f4) == 0))))) = true := by simpa using c4))
    clear c4
    by_cases c5 : 4 < (t425.length : Int)
    ·rw [if_pos c5] at H
     have c5b0 := decide_eq_true c5
     have c5b1 : decide (4 < t425.length) = true := decide_eq_true (by omega)
     clear c5
     by_cases c6 : (((rd_T30 t425 4).f0) == 3 && (((rd_T30 t425 4).f1) == 7 && ((((rd_T30 t425 4).f2).toList) == ([46, 46] : List UInt8) && (((rd_T30 t425 4).f3) == 0 && (((rd_T30 t425 4).f4) == 0))))) = true
     ·rw [if_pos c6] at H
      have c6b0 : (((rd_T30 t425 4).f0) == 3 && (((rd_T30 t425 4).f1) == 7 && ((((rd_T30 t425 4).f2).toList) == ([46, 46] : List UInt8) && (((rd_T30 t425 4).f3) == 0 && (((rd_T30 t425 4).f4) == 0))))) = true := c6
      (try (have c6b1 : decide (((rd_T30 t425 4).f0) = 3 && (((rd_T30 t425 4).f1) == 7 && ((((rd_T30 t425 4).f2).toList) == ([46, 46] : List UInt8) && (((rd_T30 t425 4).f3) == 0 && (((rd_T30 t425 4).f4) == 0))))) = true := by simpa using c6))
      (try (have c6b2 : (((rd_T30 t425 4).f0) == 3 && (((rd_T30 t425 4).f1) == 7 && ((((rd_T30 t425 4).f2).toList) == ([46, 46] : List UInt8) && (((rd_T30 t425 4).f3) == 0 && (((rd_T30 t425 4).f4) == 0))))) = true := by simpa using c6))
      clear c6
      by_cases c7 : 6 < (t425.length : Int)
      ·rw [if_pos c7] at H
       have c7b0 := decide_eq_true c7
       have c7b1 : decide (6 < t425.length) = true := decide_eq_true (by omega)
       clear c7
       by_cases c8 : ((rd_T30 t425 6).f0) = 7
       ·rw [if_pos c8] at H
        have c8b0 := beq_iff_eq.mpr c8
        have c8b1 := bne_eq_false_iff_eq.mpr c8
        clear c8
        by_cases c9 : ((rd_T30 t425 6).f1) = 14
        ·rw [if_pos c9] at H
         have c9b0 := beq_iff_eq.mpr c9
         have c9b1 := bne_eq_false_iff_eq.mpr c9
         clear c9
         obtain rfl := Option.some.inj H
         go_enter Tryd.func12, Tryd.ntmps12
         go_wp2_with (first | ((with_reducible refine gate_callee (f := 9) rfl ?_); refine goesL_ (some 4) rfl rfl Tryd.func9 (by kernel_rfl) rfl #[.string (⟨#[108, 101, 116, 32, 120, 61, 49, 46, 46, 50, 32, 35, 32, 121]⟩ : ByteArray)] rfl x67_11 ?_; (with_reducible refine (lex_All.calls (hG := x67_4) (⟨#[108, 101, 116, 32, 120, 61, 49, 46, 46, 50, 32, 35, 32, 121]⟩ : ByteArray) t425 t428 t429 _ A1.out).mono ?_); rintro e w10 ⟨v426, rfl, ho0, hb⟩; refine ⟨_, rfl, ?_⟩; have n0_ := Aside0.mk (Kd.R_lower ho0 (below_size x67_12)); have n1_ := Aside0.mk (below_step x67_12 hb); clear HB; have HO427 := n0_; have HB := n1_; clear n0_ n1_) | ((with_reducible refine gate_dst (N := 2) rfl ?_); refine box_event ?hg (N := 2) ?hd (cs := #[.int .i64 0, .int .i64 0]) (t := 25) ?hr ?_; (case hd => rfl); (case hg => rfl); (case hr => first | (go_simp; done) | (go_simp; rfl)); intro gb430 hg w11 hbox hb; have n0_ := Aside0.mk (Kd.R_below x67_23 hb); have n1_ := Aside0.mk (below_step x67_12 hb); have n2_ := Aside0.mk (hbox); have n3_ := Aside0.mk ((by rw [hg]; exact (below_size x67_12) : w.heap.size ≤ gb430)); have n4_ := Aside0.mk ((by rw [hg]; exact (below_size x67_12) : w.heap.size ≤ gb430)); clear HO427; clear HB; have HO427 := n0_; have HB := n1_; have BK430 := n2_; have GW430 := n3_; have GE430 := n4_; clear n0_ n1_ n2_ n3_ n4_; clear hb hbox hg; have hcz12_0 : w11.cell? ⟨gb430, 0, none⟩ = some (.int .i64 0) := (blk_cell BK430.out 0).trans rfl; have hcz12_1 : w11.cell? ⟨gb430, 1, none⟩ = some (.int .i64 0) := (blk_cell BK430.out 1).trans rfl; have hfz12_0 := blk_frozen BK430.out 0; have hfz12_1 := blk_frozen BK430.out 1; obtain ⟨Ao13, co13, eo13⟩ := Kd.R_slice HO427.out; subst eo13; have p431 : 0 ≤ (1 : Int) := (by omega); have q431 : 1 < (t425.length : Int) := of_decide_eq_true x67_28; obtain ⟨ad431, e431, hx431_0, hx431_1, hx431_2, hx431_3, hx431_4⟩ := at_T30 (Kd.R_reads' HO427.out).2.2 1 p431 q431; cases e431; (try simp only [show (1 : Int).toNat = 1 from rfl, Nat.reduceMul, Nat.reduceEqDiff, Go.Addr.add, ↓reduceIte] at hx431_0); (try simp only [show (1 : Int).toNat = 1 from rfl, Nat.reduceMul, Nat.reduceEqDiff, Go.Addr.add, ↓reduceIte] at hx431_1); (try simp only [show (1 : Int).toNat = 1 from rfl, Nat.reduceMul, Nat.reduceEqDiff, Go.Addr.add, ↓reduceIte] at hx431_2); (try simp only [show (1 : Int).toNat = 1 from rfl, Nat.reduceMul, Nat.reduceEqDiff, Go.Addr.add, ↓reduceIte] at hx431_3); (try simp only [show (1 : Int).toNat = 1 from rfl, Nat.reduceMul, Nat.reduceEqDiff, Go.Addr.add, ↓reduceIte] at hx431_4); have qi431 : (1 < t425.length) = True := eq_true (by omega); (try rw [show ((1 : Int)).toNat = 1 from rfl] at hx431_0); (try rw [show 1 * 5 = 5 from rfl] at hx431_0); (try rw [show ((1 : Int)).toNat = 1 from rfl] at hx431_1); (try rw [show 1 * 5 = 5 from rfl] at hx431_1); (try rw [show ((1 : Int)).toNat = 1 from rfl] at hx431_2); (try rw [show 1 * 5 = 5 from rfl] at hx431_2); (try rw [show ((1 : Int)).toNat = 1 from rfl] at hx431_3); (try rw [show 1 * 5 = 5 from rfl] at hx431_3); (try rw [show ((1 : Int)).toNat = 1 from rfl] at hx431_4); (try rw [show 1 * 5 = 5 from rfl] at hx431_4); have hn431_0 : ad431.block ≠ gb430 := Kd.own_blk (Kd.R_ne HO427.out BK430.out (by decide)); have hn431_1 : ad431.block ≠ gb430 := Kd.own_blk (Kd.R_ne HO427.out BK430.out (by decide)); replace hx431_0 := (cell_far (p := ⟨gb430, 0, none⟩) x67_15 (.int .i64 t428)).trans hx431_0; replace hx431_1 := (cell_far (p := ⟨gb430, 0, none⟩) x67_15 (.int .i64 t428)).trans hx431_1; replace hx431_2 := (cell_far (p := ⟨gb430, 0, none⟩) x67_15 (.int .i64 t428)).trans hx431_2; replace hx431_3 := (cell_far (p := ⟨gb430, 0, none⟩) x67_15 (.int .i64 t428)).trans hx431_3; replace hx431_4 := (cell_far (p := ⟨gb430, 0, none⟩) x67_15 (.int .i64 t428)).trans hx431_4; replace hx431_0 := (cell_far (p := ⟨gb430, 1, none⟩) x67_16 (.int .i64 t429)).trans hx431_0; replace hx431_1 := (cell_far (p := ⟨gb430, 1, none⟩) x67_16 (.int .i64 t429)).trans hx431_1; replace hx431_2 := (cell_far (p := ⟨gb430, 1, none⟩) x67_16 (.int .i64 t429)).trans hx431_2; replace hx431_3 := (cell_far (p := ⟨gb430, 1, none⟩) x67_16 (.int .i64 t429)).trans hx431_3; replace hx431_4 := (cell_far (p := ⟨gb430, 1, none⟩) x67_16 (.int .i64 t429)).trans hx431_4; clear hn431_0; clear hn431_1; replace p431 := eq_true p431; replace q431 := eq_true q431; have p432 : 0 ≤ (4 : Int) := (by omega); have q432 : 4 < (t425.length : Int) := of_decide_eq_true x67_28; obtain ⟨ad432, e432, hx432_0, hx432_1, hx432_2, hx432_3, hx432_4⟩ := at_T30 (Kd.R_reads' HO427.out).2.2 4 p432 q432; obtain rfl : ad431 = ad432 := (by injection e432); (try simp only [show (4 : Int).toNat = 4 from rfl, Nat.reduceMul, Nat.reduceEqDiff, Go.Addr.add, ↓reduceIte] at hx432_0); (try simp only [show (4 : Int).toNat = 4 from rfl, Nat.reduceMul, Nat.reduceEqDiff, Go.Addr.add, ↓reduceIte] at hx432_1); (try simp only [show (4 : Int).toNat = 4 from rfl, Nat.reduceMul, Nat.reduceEqDiff, Go.Addr.add, ↓reduceIte] at hx432_2); (try simp only [show (4 : Int).toNat = 4 from rfl, Nat.reduceMul, Nat.reduceEqDiff, Go.Addr.add, ↓reduceIte] at hx432_3); (try simp only [show (4 : Int).toNat = 4 from rfl, Nat.reduceMul, Nat.reduceEqDiff, Go.Addr.add, ↓reduceIte] at hx432_4); have qi432 : (4 < t425.length) = True := eq_true (by omega); (try rw [show ((4 : Int)).toNat = 4 from rfl] at hx432_0); (try rw [show 4 * 5 = 20 from rfl] at hx432_0); (try rw [show ((4 : Int)).toNat = 4 from rfl] at hx432_1); (try rw [show 4 * 5 = 20 from rfl] at hx432_1); (try rw [show ((4 : Int)).toNat = 4 from rfl] at hx432_2); (try rw [show 4 * 5 = 20 from rfl] at hx432_2); (try rw [show ((4 : Int)).toNat = 4 from rfl] at hx432_3); (try rw [show 4 * 5 = 20 from rfl] at hx432_3); (try rw [show ((4 : Int)).toNat = 4 from rfl] at hx432_4); (try rw [show 4 * 5 = 20 from rfl] at hx432_4); have hn432_0 : ad431.block ≠ gb430 := Kd.own_blk (Kd.R_ne HO427.out BK430.out (by decide)); have hn432_1 : ad431.block ≠ gb430 := Kd.own_blk (Kd.R_ne HO427.out BK430.out (by decide)); replace hx432_0 := (cell_far (p := ⟨gb430, 0, none⟩) x67_17 (.int .i64 t428)).trans hx432_0; replace hx432_1 := (cell_far (p := ⟨gb430, 0, none⟩) x67_17 (.int .i64 t428)).trans hx432_1; replace hx432_2 := (cell_far (p := ⟨gb430, 0, none⟩) x67_17 (.int .i64 t428)).trans hx432_2; replace hx432_3 := (cell_far (p := ⟨gb430, 0, none⟩) x67_17 (.int .i64 t428)).trans hx432_3; replace hx432_4 := (cell_far (p := ⟨gb430, 0, none⟩) x67_17 (.int .i64 t428)).trans hx432_4; replace hx432_0 := (cell_far (p := ⟨gb430, 1, none⟩) x67_18 (.int .i64 t429)).trans hx432_0; replace hx432_1 := (cell_far (p := ⟨gb430, 1, none⟩) x67_18 (.int .i64 t429)).trans hx432_1; replace hx432_2 := (cell_far (p := ⟨gb430, 1, none⟩) x67_18 (.int .i64 t429)).trans hx432_2; replace hx432_3 := (cell_far (p := ⟨gb430, 1, none⟩) x67_18 (.int .i64 t429)).trans hx432_3; replace hx432_4 := (cell_far (p := ⟨gb430, 1, none⟩) x67_18 (.int .i64 t429)).trans hx432_4; clear hn432_0; clear hn432_1; replace p432 := eq_true p432; replace q432 := eq_true q432; have p433 : 0 ≤ (6 : Int) := (by omega); have q433 : 6 < (t425.length : Int) := of_decide_eq_true x67_28; obtain ⟨ad433, e433, hx433_0, hx433_1, hx433_2, hx433_3, hx433_4⟩ := at_T30 (Kd.R_reads' HO427.out).2.2 6 p433 q433; obtain rfl : ad431 = ad433 := (by injection e433); (try simp only [show (6 : Int).toNat = 6 from rfl, Nat.reduceMul, Nat.reduceEqDiff, Go.Addr.add, ↓reduceIte] at hx433_0); (try simp only [show (6 : Int).toNat = 6 from rfl, Nat.reduceMul, Nat.reduceEqDiff, Go.Addr.add, ↓reduceIte] at hx433_1); (try simp only [show (6 : Int).toNat = 6 from rfl, Nat.reduceMul, Nat.reduceEqDiff, Go.Addr.add, ↓reduceIte] at hx433_2); (try simp only [show (6 : Int).toNat = 6 from rfl, Nat.reduceMul, Nat.reduceEqDiff, Go.Addr.add, ↓reduceIte] at hx433_3); (try simp only [show (6 : Int).toNat = 6 from rfl, Nat.reduceMul, Nat.reduceEqDiff, Go.Addr.add, ↓reduceIte] at hx433_4); have qi433 : (6 < t425.length) = True := eq_true (by omega); (try rw [show ((6 : Int)).toNat = 6 from rfl] at hx433_0); (try rw [show 6 * 5 = 30 from rfl] at hx433_0); (try rw [show ((6 : Int)).toNat = 6 from rfl] at hx433_1); (try rw [show 6 * 5 = 30 from rfl] at hx433_1); (try rw [show ((6 : Int)).toNat = 6 from rfl] at hx433_2); (try rw [show 6 * 5 = 30 from rfl] at hx433_2); (try rw [show ((6 : Int)).toNat = 6 from rfl] at hx433_3); (try rw [show 6 * 5 = 30 from rfl] at hx433_3); (try rw [show ((6 : Int)).toNat = 6 from rfl] at hx433_4); (try rw [show 6 * 5 = 30 from rfl] at hx433_4); have hn433_0 : ad431.block ≠ gb430 := Kd.own_blk (Kd.R_ne HO427.out BK430.out (by decide)); have hn433_1 : ad431.block ≠ gb430 := Kd.own_blk (Kd.R_ne HO427.out BK430.out (by decide)); replace hx433_0 := (cell_far (p := ⟨gb430, 0, none⟩) x67_19 (.int .i64 t428)).trans hx433_0; replace hx433_1 := (cell_far (p := ⟨gb430, 0, none⟩) x67_19 (.int .i64 t428)).trans hx433_1; replace hx433_2 := (cell_far (p := ⟨gb430, 0, none⟩) x67_19 (.int .i64 t428)).trans hx433_2; replace hx433_3 := (cell_far (p := ⟨gb430, 0, none⟩) x67_19 (.int .i64 t428)).trans hx433_3; replace hx433_4 := (cell_far (p := ⟨gb430, 0, none⟩) x67_19 (.int .i64 t428)).trans hx433_4; replace hx433_0 := (cell_far (p := ⟨gb430, 1, none⟩) x67_20 (.int .i64 t429)).trans hx433_0; replace hx433_1 := (cell_far (p := ⟨gb430, 1, none⟩) x67_20 (.int .i64 t429)).trans hx433_1; replace hx433_2 := (cell_far (p := ⟨gb430, 1, none⟩) x67_20 (.int .i64 t429)).trans hx433_2; replace hx433_3 := (cell_far (p := ⟨gb430, 1, none⟩) x67_20 (.int .i64 t429)).trans hx433_3; replace hx433_4 := (cell_far (p := ⟨gb430, 1, none⟩) x67_20 (.int .i64 t429)).trans hx433_4; clear hn433_0; clear hn433_1; replace p433 := eq_true p433; replace q433 := eq_true q433; have p434 : 0 ≤ (6 : Int) := (by omega); have q434 : 6 < (t425.length : Int) := of_decide_eq_true x67_28; obtain ⟨ad434, e434, hx434_0, hx434_1, hx434_2, hx434_3, hx434_4⟩ := at_T30 (Kd.R_reads' HO427.out).2.2 6 p434 q434; obtain rfl : ad431 = ad434 := (by injection e434); (try simp only [show (6 : Int).toNat = 6 from rfl, Nat.reduceMul, Nat.reduceEqDiff, Go.Addr.add, ↓reduceIte] at hx434_0); (try simp only [show (6 : Int).toNat = 6 from rfl, Nat.reduceMul, Nat.reduceEqDiff, Go.Addr.add, ↓reduceIte] at hx434_1); (try simp only [show (6 : Int).toNat = 6 from rfl, Nat.reduceMul, Nat.reduceEqDiff, Go.Addr.add, ↓reduceIte] at hx434_2); (try simp only [show (6 : Int).toNat = 6 from rfl, Nat.reduceMul, Nat.reduceEqDiff, Go.Addr.add, ↓reduceIte] at hx434_3); (try simp only [show (6 : Int).toNat = 6 from rfl, Nat.reduceMul, Nat.reduceEqDiff, Go.Addr.add, ↓reduceIte] at hx434_4); have qi434 : (6 < t425.length) = True := eq_true (by omega); (try rw [show ((6 : Int)).toNat = 6 from rfl] at hx434_0); (try rw [show 6 * 5 = 30 from rfl] at hx434_0); (try rw [show ((6 : Int)).toNat = 6 from rfl] at hx434_1); (try rw [show 6 * 5 = 30 from rfl] at hx434_1); (try rw [show ((6 : Int)).toNat = 6 from rfl] at hx434_2); (try rw [show 6 * 5 = 30 from rfl] at hx434_2); (try rw [show ((6 : Int)).toNat = 6 from rfl] at hx434_3); (try rw [show 6 * 5 = 30 from rfl] at hx434_3); (try rw [show ((6 : Int)).toNat = 6 from rfl] at hx434_4); (try rw [show 6 * 5 = 30 from rfl] at hx434_4); have hn434_0 : ad431.block ≠ gb430 := Kd.own_blk (Kd.R_ne HO427.out BK430.out (by decide)); have hn434_1 : ad431.block ≠ gb430 := Kd.own_blk (Kd.R_ne HO427.out BK430.out (by decide)); replace hx434_0 := (cell_far (p := ⟨gb430, 0, none⟩) x67_21 (.int .i64 t428)).trans hx434_0; replace hx434_1 := (cell_far (p := ⟨gb430, 0, none⟩) x67_21 (.int .i64 t428)).trans hx434_1; replace hx434_2 := (cell_far (p := ⟨gb430, 0, none⟩) x67_21 (.int .i64 t428)).trans hx434_2; replace hx434_3 := (cell_far (p := ⟨gb430, 0, none⟩) x67_21 (.int .i64 t428)).trans hx434_3; replace hx434_4 := (cell_far (p := ⟨gb430, 0, none⟩) x67_21 (.int .i64 t428)).trans hx434_4; replace hx434_0 := (cell_far (p := ⟨gb430, 1, none⟩) x67_22 (.int .i64 t429)).trans hx434_0; replace hx434_1 := (cell_far (p := ⟨gb430, 1, none⟩) x67_22 (.int .i64 t429)).trans hx434_1; replace hx434_2 := (cell_far (p := ⟨gb430, 1, none⟩) x67_22 (.int .i64 t429)).trans hx434_2; replace hx434_3 := (cell_far (p := ⟨gb430, 1, none⟩) x67_22 (.int .i64 t429)).trans hx434_3; replace hx434_4 := (cell_far (p := ⟨gb430, 1, none⟩) x67_22 (.int .i64 t429)).trans hx434_4; clear hn434_0; clear hn434_1; replace p434 := eq_true p434; replace q434 := eq_true q434))
         go_ret
         exact ⟨x67_27, x67_9⟩
        ·rw [if_neg c9] at H
         have c9b0 := beq_eq_false_iff_ne.mpr c9
         have c9b1 := bne_iff_ne.mpr c9
         obtain rfl := Option.some.inj H
         go_enter Tryd.func12, Tryd.ntmps12
         go_wp2_with (first | ((with_reducible refine gate_callee (f := 9) rfl ?_); refine goesL_ (some 4) rfl rfl Tryd.func9 (by kernel_rfl) rfl #[.string (⟨#[108, 101, 116, 32, 120, 61, 49, 46, 46, 50, 32, 35, 32, 121]⟩ : ByteArray)] rfl x67_11 ?_; (with_reducible refine (lex_All.calls (hG := x67_4) (⟨#[108, 101, 116, 32, 120, 61, 49, 46, 46, 50, 32, 35, 32, 121]⟩ : ByteArray) t425 t428 t429 _ A1.out).mono ?_); rintro e w14 ⟨v426, rfl, ho0, hb⟩; refine ⟨_, rfl, ?_⟩; have n0_ := Aside0.mk (Kd.R_lower ho0 (below_size x67_12)); have n1_ := Aside0.mk (below_step x67_12 hb); clear HB; have HO427 := n0_; have HB := n1_; clear n0_ n1_) | ((with_reducible refine gate_dst (N := 2) rfl ?_); refine box_event ?hg (N := 2) ?hd (cs := #[.int .i64 0, .int .i64 0]) (t := 25) ?hr ?_; (case hd => rfl); (case hg => rfl); (case hr => first | (go_simp; done) | (go_simp; rfl)); intro gb430 hg w15 hbox hb; have n0_ := Aside0.mk (Kd.R_below x67_23 hb); have n1_ := Aside0.mk (below_step x67_12 hb); have n2_ := Aside0.mk (hbox); have n3_ := Aside0.mk ((by rw [hg]; exact (below_size x67_12) : w.heap.size ≤ gb430)); have n4_ := Aside0.mk ((by rw [hg]; exact (below_size x67_12) : w.heap.size ≤ gb430)); clear HO427; clear HB; have HO427 := n0_; have HB := n1_; have BK430 := n2_; have GW430 := n3_; have GE430 := n4_; clear n0_ n1_ n2_ n3_ n4_; clear hb hbox hg; have hcz16_0 : w15.cell? ⟨gb430, 0, none⟩ = some (.int .i64 0) := (blk_cell BK430.out 0).trans rfl; have hcz16_1 : w15.cell? ⟨gb430, 1, none⟩ = some (.int .i64 0) := (blk_cell BK430.out 1).trans rfl; have hfz16_0 := blk_frozen BK430.out 0; have hfz16_1 := blk_frozen BK430.out 1; obtain ⟨Ao17, co17, eo17⟩ := Kd.R_slice HO427.out; subst eo17; have p431 : 0 ≤ (1 : Int) := (by omega); have q431 : 1 < (t425.length : Int) := of_decide_eq_true x67_28; obtain ⟨ad431, e431, hx431_0, hx431_1, hx431_2, hx431_3, hx431_4⟩ := at_T30 (Kd.R_reads' HO427.out).2.2 1 p431 q431; cases e431; (try simp only [show (1 : Int).toNat = 1 from rfl, Nat.reduceMul, Nat.reduceEqDiff, Go.Addr.add, ↓reduceIte] at hx431_0); (try simp only [show (1 : Int).toNat = 1 from rfl, Nat.reduceMul, Nat.reduceEqDiff, Go.Addr.add, ↓reduceIte] at hx431_1); (try simp only [show (1 : Int).toNat = 1 from rfl, Nat.reduceMul, Nat.reduceEqDiff, Go.Addr.add, ↓reduceIte] at hx431_2); (try simp only [show (1 : Int).toNat = 1 from rfl, Nat.reduceMul, Nat.reduceEqDiff, Go.Addr.add, ↓reduceIte] at hx431_3); (try simp only [show (1 : Int).toNat = 1 from rfl, Nat.reduceMul, Nat.reduceEqDiff, Go.Addr.add, ↓reduceIte] at hx431_4); have qi431 : (1 < t425.length) = True := eq_true (by omega); (try rw [show ((1 : Int)).toNat = 1 from rfl] at hx431_0); (try rw [show 1 * 5 = 5 from rfl] at hx431_0); (try rw [show ((1 : Int)).toNat = 1 from rfl] at hx431_1); (try rw [show 1 * 5 = 5 from rfl] at hx431_1); (try rw [show ((1 : Int)).toNat = 1 from rfl] at hx431_2); (try rw [show 1 * 5 = 5 from rfl] at hx431_2); (try rw [show ((1 : Int)).toNat = 1 from rfl] at hx431_3); (try rw [show 1 * 5 = 5 from rfl] at hx431_3); (try rw [show ((1 : Int)).toNat = 1 from rfl] at hx431_4); (try rw [show 1 * 5 = 5 from rfl] at hx431_4); have hn431_0 : ad431.block ≠ gb430 := Kd.own_blk (Kd.R_ne HO427.out BK430.out (by decide)); have hn431_1 : ad431.block ≠ gb430 := Kd.own_blk (Kd.R_ne HO427.out BK430.out (by decide)); replace hx431_0 := (cell_far (p := ⟨gb430, 0, none⟩) x67_15 (.int .i64 t428)).trans hx431_0; replace hx431_1 := (cell_far (p := ⟨gb430, 0, none⟩) x67_15 (.int .i64 t428)).trans hx431_1; replace hx431_2 := (cell_far (p := ⟨gb430, 0, none⟩) x67_15 (.int .i64 t428)).trans hx431_2; replace hx431_3 := (cell_far (p := ⟨gb430, 0, none⟩) x67_15 (.int .i64 t428)).trans hx431_3; replace hx431_4 := (cell_far (p := ⟨gb430, 0, none⟩) x67_15 (.int .i64 t428)).trans hx431_4; replace hx431_0 := (cell_far (p := ⟨gb430, 1, none⟩) x67_16 (.int .i64 t429)).trans hx431_0; replace hx431_1 := (cell_far (p := ⟨gb430, 1, none⟩) x67_16 (.int .i64 t429)).trans hx431_1; replace hx431_2 := (cell_far (p := ⟨gb430, 1, none⟩) x67_16 (.int .i64 t429)).trans hx431_2; replace hx431_3 := (cell_far (p := ⟨gb430, 1, none⟩) x67_16 (.int .i64 t429)).trans hx431_3; replace hx431_4 := (cell_far (p := ⟨gb430, 1, none⟩) x67_16 (.int .i64 t429)).trans hx431_4; clear hn431_0; clear hn431_1; replace p431 := eq_true p431; replace q431 := eq_true q431; have p432 : 0 ≤ (4 : Int) := (by omega); have q432 : 4 < (t425.length : Int) := of_decide_eq_true x67_28; obtain ⟨ad432, e432, hx432_0, hx432_1, hx432_2, hx432_3, hx432_4⟩ := at_T30 (Kd.R_reads' HO427.out).2.2 4 p432 q432; obtain rfl : ad431 = ad432 := (by injection e432); (try simp only [show (4 : Int).toNat = 4 from rfl, Nat.reduceMul, Nat.reduceEqDiff, Go.Addr.add, ↓reduceIte] at hx432_0); (try simp only [show (4 : Int).toNat = 4 from rfl, Nat.reduceMul, Nat.reduceEqDiff, Go.Addr.add, ↓reduceIte] at hx432_1); (try simp only [show (4 : Int).toNat = 4 from rfl, Nat.reduceMul, Nat.reduceEqDiff, Go.Addr.add, ↓reduceIte] at hx432_2); (try simp only [show (4 : Int).toNat = 4 from rfl, Nat.reduceMul, Nat.reduceEqDiff, Go.Addr.add, ↓reduceIte] at hx432_3); (try simp only [show (4 : Int).toNat = 4 from rfl, Nat.reduceMul, Nat.reduceEqDiff, Go.Addr.add, ↓reduceIte] at hx432_4); have qi432 : (4 < t425.length) = True := eq_true (by omega); (try rw [show ((4 : Int)).toNat = 4 from rfl] at hx432_0); (try rw [show 4 * 5 = 20 from rfl] at hx432_0); (try rw [show ((4 : Int)).toNat = 4 from rfl] at hx432_1); (try rw [show 4 * 5 = 20 from rfl] at hx432_1); (try rw [show ((4 : Int)).toNat = 4 from rfl] at hx432_2); (try rw [show 4 * 5 = 20 from rfl] at hx432_2); (try rw [show ((4 : Int)).toNat = 4 from rfl] at hx432_3); (try rw [show 4 * 5 = 20 from rfl] at hx432_3); (try rw [show ((4 : Int)).toNat = 4 from rfl] at hx432_4); (try rw [show 4 * 5 = 20 from rfl] at hx432_4); have hn432_0 : ad431.block ≠ gb430 := Kd.own_blk (Kd.R_ne HO427.out BK430.out (by decide)); have hn432_1 : ad431.block ≠ gb430 := Kd.own_blk (Kd.R_ne HO427.out BK430.out (by decide)); replace hx432_0 := (cell_far (p := ⟨gb430, 0, none⟩) x67_17 (.int .i64 t428)).trans hx432_0; replace hx432_1 := (cell_far (p := ⟨gb430, 0, none⟩) x67_17 (.int .i64 t428)).trans hx432_1; replace hx432_2 := (cell_far (p := ⟨gb430, 0, none⟩) x67_17 (.int .i64 t428)).trans hx432_2; replace hx432_3 := (cell_far (p := ⟨gb430, 0, none⟩) x67_17 (.int .i64 t428)).trans hx432_3; replace hx432_4 := (cell_far (p := ⟨gb430, 0, none⟩) x67_17 (.int .i64 t428)).trans hx432_4; replace hx432_0 := (cell_far (p := ⟨gb430, 1, none⟩) x67_18 (.int .i64 t429)).trans hx432_0; replace hx432_1 := (cell_far (p := ⟨gb430, 1, none⟩) x67_18 (.int .i64 t429)).trans hx432_1; replace hx432_2 := (cell_far (p := ⟨gb430, 1, none⟩) x67_18 (.int .i64 t429)).trans hx432_2; replace hx432_3 := (cell_far (p := ⟨gb430, 1, none⟩) x67_18 (.int .i64 t429)).trans hx432_3; replace hx432_4 := (cell_far (p := ⟨gb430, 1, none⟩) x67_18 (.int .i64 t429)).trans hx432_4; clear hn432_0; clear hn432_1; replace p432 := eq_true p432; replace q432 := eq_true q432; have p433 : 0 ≤ (6 : Int) := (by omega); have q433 : 6 < (t425.length : Int) := of_decide_eq_true x67_28; obtain ⟨ad433, e433, hx433_0, hx433_1, hx433_2, hx433_3, hx433_4⟩ := at_T30 (Kd.R_reads' HO427.out).2.2 6 p433 q433; obtain rfl : ad431 = ad433 := (by injection e433); (try simp only [show (6 : Int).toNat = 6 from rfl, Nat.reduceMul, Nat.reduceEqDiff, Go.Addr.add, ↓reduceIte] at hx433_0); (try simp only [show (6 : Int).toNat = 6 from rfl, Nat.reduceMul, Nat.reduceEqDiff, Go.Addr.add, ↓reduceIte] at hx433_1); (try simp only [show (6 : Int).toNat = 6 from rfl, Nat.reduceMul, Nat.reduceEqDiff, Go.Addr.add, ↓reduceIte] at hx433_2); (try simp only [show (6 : Int).toNat = 6 from rfl, Nat.reduceMul, Nat.reduceEqDiff, Go.Addr.add, ↓reduceIte] at hx433_3); (try simp only [show (6 : Int).toNat = 6 from rfl, Nat.reduceMul, Nat.reduceEqDiff, Go.Addr.add, ↓reduceIte] at hx433_4); have qi433 : (6 < t425.length) = True := eq_true (by omega); (try rw [show ((6 : Int)).toNat = 6 from rfl] at hx433_0); (try rw [show 6 * 5 = 30 from rfl] at hx433_0); (try rw [show ((6 : Int)).toNat = 6 from rfl] at hx433_1); (try rw [show 6 * 5 = 30 from rfl] at hx433_1); (try rw [show ((6 : Int)).toNat = 6 from rfl] at hx433_2); (try rw [show 6 * 5 = 30 from rfl] at hx433_2); (try rw [show ((6 : Int)).toNat = 6 from rfl] at hx433_3); (try rw [show 6 * 5 = 30 from rfl] at hx433_3); (try rw [show ((6 : Int)).toNat = 6 from rfl] at hx433_4); (try rw [show 6 * 5 = 30 from rfl] at hx433_4); have hn433_0 : ad431.block ≠ gb430 := Kd.own_blk (Kd.R_ne HO427.out BK430.out (by decide)); have hn433_1 : ad431.block ≠ gb430 := Kd.own_blk (Kd.R_ne HO427.out BK430.out (by decide)); replace hx433_0 := (cell_far (p := ⟨gb430, 0, none⟩) x67_19 (.int .i64 t428)).trans hx433_0; replace hx433_1 := (cell_far (p := ⟨gb430, 0, none⟩) x67_19 (.int .i64 t428)).trans hx433_1; replace hx433_2 := (cell_far (p := ⟨gb430, 0, none⟩) x67_19 (.int .i64 t428)).trans hx433_2; replace hx433_3 := (cell_far (p := ⟨gb430, 0, none⟩) x67_19 (.int .i64 t428)).trans hx433_3; replace hx433_4 := (cell_far (p := ⟨gb430, 0, none⟩) x67_19 (.int .i64 t428)).trans hx433_4; replace hx433_0 := (cell_far (p := ⟨gb430, 1, none⟩) x67_20 (.int .i64 t429)).trans hx433_0; replace hx433_1 := (cell_far (p := ⟨gb430, 1, none⟩) x67_20 (.int .i64 t429)).trans hx433_1; replace hx433_2 := (cell_far (p := ⟨gb430, 1, none⟩) x67_20 (.int .i64 t429)).trans hx433_2; replace hx433_3 := (cell_far (p := ⟨gb430, 1, none⟩) x67_20 (.int .i64 t429)).trans hx433_3; replace hx433_4 := (cell_far (p := ⟨gb430, 1, none⟩) x67_20 (.int .i64 t429)).trans hx433_4; clear hn433_0; clear hn433_1; replace p433 := eq_true p433; replace q433 := eq_true q433; have p434 : 0 ≤ (6 : Int) := (by omega); have q434 : 6 < (t425.length : Int) := of_decide_eq_true x67_28; obtain ⟨ad434, e434, hx434_0, hx434_1, hx434_2, hx434_3, hx434_4⟩ := at_T30 (Kd.R_reads' HO427.out).2.2 6 p434 q434; obtain rfl : ad431 = ad434 := (by injection e434); (try simp only [show (6 : Int).toNat = 6 from rfl, Nat.reduceMul, Nat.reduceEqDiff, Go.Addr.add, ↓reduceIte] at hx434_0); (try simp only [show (6 : Int).toNat = 6 from rfl, Nat.reduceMul, Nat.reduceEqDiff, Go.Addr.add, ↓reduceIte] at hx434_1); (try simp only [show (6 : Int).toNat = 6 from rfl, Nat.reduceMul, Nat.reduceEqDiff, Go.Addr.add, ↓reduceIte] at hx434_2); (try simp only [show (6 : Int).toNat = 6 from rfl, Nat.reduceMul, Nat.reduceEqDiff, Go.Addr.add, ↓reduceIte] at hx434_3); (try simp only [show (6 : Int).toNat = 6 from rfl, Nat.reduceMul, Nat.reduceEqDiff, Go.Addr.add, ↓reduceIte] at hx434_4); have qi434 : (6 < t425.length) = True := eq_true (by omega); (try rw [show ((6 : Int)).toNat = 6 from rfl] at hx434_0); (try rw [show 6 * 5 = 30 from rfl] at hx434_0); (try rw [show ((6 : Int)).toNat = 6 from rfl] at hx434_1); (try rw [show 6 * 5 = 30 from rfl] at hx434_1); (try rw [show ((6 : Int)).toNat = 6 from rfl] at hx434_2); (try rw [show 6 * 5 = 30 from rfl] at hx434_2); (try rw [show ((6 : Int)).toNat = 6 from rfl] at hx434_3); (try rw [show 6 * 5 = 30 from rfl] at hx434_3); (try rw [show ((6 : Int)).toNat = 6 from rfl] at hx434_4); (try rw [show 6 * 5 = 30 from rfl] at hx434_4); have hn434_0 : ad431.block ≠ gb430 := Kd.own_blk (Kd.R_ne HO427.out BK430.out (by decide)); have hn434_1 : ad431.block ≠ gb430 := Kd.own_blk (Kd.R_ne HO427.out BK430.out (by decide)); replace hx434_0 := (cell_far (p := ⟨gb430, 0, none⟩) x67_21 (.int .i64 t428)).trans hx434_0; replace hx434_1 := (cell_far (p := ⟨gb430, 0, none⟩) x67_21 (.int .i64 t428)).trans hx434_1; replace hx434_2 := (cell_far (p := ⟨gb430, 0, none⟩) x67_21 (.int .i64 t428)).trans hx434_2; replace hx434_3 := (cell_far (p := ⟨gb430, 0, none⟩) x67_21 (.int .i64 t428)).trans hx434_3; replace hx434_4 := (cell_far (p := ⟨gb430, 0, none⟩) x67_21 (.int .i64 t428)).trans hx434_4; replace hx434_0 := (cell_far (p := ⟨gb430, 1, none⟩) x67_22 (.int .i64 t429)).trans hx434_0; replace hx434_1 := (cell_far (p := ⟨gb430, 1, none⟩) x67_22 (.int .i64 t429)).trans hx434_1; replace hx434_2 := (cell_far (p := ⟨gb430, 1, none⟩) x67_22 (.int .i64 t429)).trans hx434_2; replace hx434_3 := (cell_far (p := ⟨gb430, 1, none⟩) x67_22 (.int .i64 t429)).trans hx434_3; replace hx434_4 := (cell_far (p := ⟨gb430, 1, none⟩) x67_22 (.int .i64 t429)).trans hx434_4; clear hn434_0; clear hn434_1; replace p434 := eq_true p434; replace q434 := eq_true q434))
         go_ret
         exact ⟨x67_27, x67_9⟩
       ·rw [if_neg c8] at H
        have c8b0 := beq_eq_false_iff_ne.mpr c8
        have c8b1 := bne_iff_ne.mpr c8
        obtain rfl := Option.some.inj H
        go_enter Tryd.func12, Tryd.ntmps12
        go_wp2_with (first | ((with_reducible refine gate_callee (f := 9) rfl ?_); refine goesL_ (some 4) rfl rfl Tryd.func9 (by kernel_rfl) rfl #[.string (⟨#[108, 101, 116, 32, 120, 61, 49, 46, 46, 50, 32, 35, 32, 121]⟩ : ByteArray)] rfl x67_11 ?_; (with_reducible refine (lex_All.calls (hG := x67_4) (⟨#[108, 101, 116, 32, 120, 61, 49, 46, 46, 50, 32, 35, 32, 121]⟩ : ByteArray) t425 t428 t429 _ A1.out).mono ?_); rintro e w18 ⟨v426, rfl, ho0, hb⟩; refine ⟨_, rfl, ?_⟩; have n0_ := Aside0.mk (Kd.R_lower ho0 (below_size x67_12)); have n1_ := Aside0.mk (below_step x67_12 hb); clear HB; have HO427 := n0_; have HB := n1_; clear n0_ n1_) | ((with_reducible refine gate_dst (N := 2) rfl ?_); refine box_event ?hg (N := 2) ?hd (cs := #[.int .i64 0, .int .i64 0]) (t := 25) ?hr ?_; (case hd => rfl); (case hg => rfl); (case hr => first | (go_simp; done) | (go_simp; rfl)); intro gb430 hg w19 hbox hb; have n0_ := Aside0.mk (Kd.R_below x67_23 hb); have n1_ := Aside0.mk (below_step x67_12 hb); have n2_ := Aside0.mk (hbox); have n3_ := Aside0.mk ((by rw [hg]; exact (below_size x67_12) : w.heap.size ≤ gb430)); have n4_ := Aside0.mk ((by rw [hg]; exact (below_size x67_12) : w.heap.size ≤ gb430)); clear HO427; clear HB; have HO427 := n0_; have HB := n1_; have BK430 := n2_; have GW430 := n3_; have GE430 := n4_; clear n0_ n1_ n2_ n3_ n4_; clear hb hbox hg; have hcz20_0 : w19.cell? ⟨gb430, 0, none⟩ = some (.int .i64 0) := (blk_cell BK430.out 0).trans rfl; have hcz20_1 : w19.cell? ⟨gb430, 1, none⟩ = some (.int .i64 0) := (blk_cell BK430.out 1).trans rfl; have hfz20_0 := blk_frozen BK430.out 0; have hfz20_1 := blk_frozen BK430.out 1; obtain ⟨Ao21, co21, eo21⟩ := Kd.R_slice HO427.out; subst eo21; have p431 : 0 ≤ (1 : Int) := (by omega); have q431 : 1 < (t425.length : Int) := of_decide_eq_true x67_28; obtain ⟨ad431, e431, hx431_0, hx431_1, hx431_2, hx431_3, hx431_4⟩ := at_T30 (Kd.R_reads' HO427.out).2.2 1 p431 q431; cases e431; (try simp only [show (1 : Int).toNat = 1 from rfl, Nat.reduceMul, Nat.reduceEqDiff, Go.Addr.add, ↓reduceIte] at hx431_0); (try simp only [show (1 : Int).toNat = 1 from rfl, Nat.reduceMul, Nat.reduceEqDiff, Go.Addr.add, ↓reduceIte] at hx431_1); (try simp only [show (1 : Int).toNat = 1 from rfl, Nat.reduceMul, Nat.reduceEqDiff, Go.Addr.add, ↓reduceIte] at hx431_2); (try simp only [show (1 : Int).toNat = 1 from rfl, Nat.reduceMul, Nat.reduceEqDiff, Go.Addr.add, ↓reduceIte] at hx431_3); (try simp only [show (1 : Int).toNat = 1 from rfl, Nat.reduceMul, Nat.reduceEqDiff, Go.Addr.add, ↓reduceIte] at hx431_4); have qi431 : (1 < t425.length) = True := eq_true (by omega); (try rw [show ((1 : Int)).toNat = 1 from rfl] at hx431_0); (try rw [show 1 * 5 = 5 from rfl] at hx431_0); (try rw [show ((1 : Int)).toNat = 1 from rfl] at hx431_1); (try rw [show 1 * 5 = 5 from rfl] at hx431_1); (try rw [show ((1 : Int)).toNat = 1 from rfl] at hx431_2); (try rw [show 1 * 5 = 5 from rfl] at hx431_2); (try rw [show ((1 : Int)).toNat = 1 from rfl] at hx431_3); (try rw [show 1 * 5 = 5 from rfl] at hx431_3); (try rw [show ((1 : Int)).toNat = 1 from rfl] at hx431_4); (try rw [show 1 * 5 = 5 from rfl] at hx431_4); have hn431_0 : ad431.block ≠ gb430 := Kd.own_blk (Kd.R_ne HO427.out BK430.out (by decide)); have hn431_1 : ad431.block ≠ gb430 := Kd.own_blk (Kd.R_ne HO427.out BK430.out (by decide)); replace hx431_0 := (cell_far (p := ⟨gb430, 0, none⟩) x67_15 (.int .i64 t428)).trans hx431_0; replace hx431_1 := (cell_far (p := ⟨gb430, 0, none⟩) x67_15 (.int .i64 t428)).trans hx431_1; replace hx431_2 := (cell_far (p := ⟨gb430, 0, none⟩) x67_15 (.int .i64 t428)).trans hx431_2; replace hx431_3 := (cell_far (p := ⟨gb430, 0, none⟩) x67_15 (.int .i64 t428)).trans hx431_3; replace hx431_4 := (cell_far (p := ⟨gb430, 0, none⟩) x67_15 (.int .i64 t428)).trans hx431_4; replace hx431_0 := (cell_far (p := ⟨gb430, 1, none⟩) x67_16 (.int .i64 t429)).trans hx431_0; replace hx431_1 := (cell_far (p := ⟨gb430, 1, none⟩) x67_16 (.int .i64 t429)).trans hx431_1; replace hx431_2 := (cell_far (p := ⟨gb430, 1, none⟩) x67_16 (.int .i64 t429)).trans hx431_2; replace hx431_3 := (cell_far (p := ⟨gb430, 1, none⟩) x67_16 (.int .i64 t429)).trans hx431_3; replace hx431_4 := (cell_far (p := ⟨gb430, 1, none⟩) x67_16 (.int .i64 t429)).trans hx431_4; clear hn431_0; clear hn431_1; replace p431 := eq_true p431; replace q431 := eq_true q431; have p432 : 0 ≤ (4 : Int) := (by omega); have q432 : 4 < (t425.length : Int) := of_decide_eq_true x67_28; obtain ⟨ad432, e432, hx432_0, hx432_1, hx432_2, hx432_3, hx432_4⟩ := at_T30 (Kd.R_reads' HO427.out).2.2 4 p432 q432; obtain rfl : ad431 = ad432 := (by injection e432); (try simp only [show (4 : Int).toNat = 4 from rfl, Nat.reduceMul, Nat.reduceEqDiff, Go.Addr.add, ↓reduceIte] at hx432_0); (try simp only [show (4 : Int).toNat = 4 from rfl, Nat.reduceMul, Nat.reduceEqDiff, Go.Addr.add, ↓reduceIte] at hx432_1); (try simp only [show (4 : Int).toNat = 4 from rfl, Nat.reduceMul, Nat.reduceEqDiff, Go.Addr.add, ↓reduceIte] at hx432_2); (try simp only [show (4 : Int).toNat = 4 from rfl, Nat.reduceMul, Nat.reduceEqDiff, Go.Addr.add, ↓reduceIte] at hx432_3); (try simp only [show (4 : Int).toNat = 4 from rfl, Nat.reduceMul, Nat.reduceEqDiff, Go.Addr.add, ↓reduceIte] at hx432_4); have qi432 : (4 < t425.length) = True := eq_true (by omega); (try rw [show ((4 : Int)).toNat = 4 from rfl] at hx432_0); (try rw [show 4 * 5 = 20 from rfl] at hx432_0); (try rw [show ((4 : Int)).toNat = 4 from rfl] at hx432_1); (try rw [show 4 * 5 = 20 from rfl] at hx432_1); (try rw [show ((4 : Int)).toNat = 4 from rfl] at hx432_2); (try rw [show 4 * 5 = 20 from rfl] at hx432_2); (try rw [show ((4 : Int)).toNat = 4 from rfl] at hx432_3); (try rw [show 4 * 5 = 20 from rfl] at hx432_3); (try rw [show ((4 : Int)).toNat = 4 from rfl] at hx432_4); (try rw [show 4 * 5 = 20 from rfl] at hx432_4); have hn432_0 : ad431.block ≠ gb430 := Kd.own_blk (Kd.R_ne HO427.out BK430.out (by decide)); have hn432_1 : ad431.block ≠ gb430 := Kd.own_blk (Kd.R_ne HO427.out BK430.out (by decide)); replace hx432_0 := (cell_far (p := ⟨gb430, 0, none⟩) x67_17 (.int .i64 t428)).trans hx432_0; replace hx432_1 := (cell_far (p := ⟨gb430, 0, none⟩) x67_17 (.int .i64 t428)).trans hx432_1; replace hx432_2 := (cell_far (p := ⟨gb430, 0, none⟩) x67_17 (.int .i64 t428)).trans hx432_2; replace hx432_3 := (cell_far (p := ⟨gb430, 0, none⟩) x67_17 (.int .i64 t428)).trans hx432_3; replace hx432_4 := (cell_far (p := ⟨gb430, 0, none⟩) x67_17 (.int .i64 t428)).trans hx432_4; replace hx432_0 := (cell_far (p := ⟨gb430, 1, none⟩) x67_18 (.int .i64 t429)).trans hx432_0; replace hx432_1 := (cell_far (p := ⟨gb430, 1, none⟩) x67_18 (.int .i64 t429)).trans hx432_1; replace hx432_2 := (cell_far (p := ⟨gb430, 1, none⟩) x67_18 (.int .i64 t429)).trans hx432_2; replace hx432_3 := (cell_far (p := ⟨gb430, 1, none⟩) x67_18 (.int .i64 t429)).trans hx432_3; replace hx432_4 := (cell_far (p := ⟨gb430, 1, none⟩) x67_18 (.int .i64 t429)).trans hx432_4; clear hn432_0; clear hn432_1; replace p432 := eq_true p432; replace q432 := eq_true q432; have p433 : 0 ≤ (6 : Int) := (by omega); have q433 : 6 < (t425.length : Int) := of_decide_eq_true x67_28; obtain ⟨ad433, e433, hx433_0, hx433_1, hx433_2, hx433_3, hx433_4⟩ := at_T30 (Kd.R_reads' HO427.out).2.2 6 p433 q433; obtain rfl : ad431 = ad433 := (by injection e433); (try simp only [show (6 : Int).toNat = 6 from rfl, Nat.reduceMul, Nat.reduceEqDiff, Go.Addr.add, ↓reduceIte] at hx433_0); (try simp only [show (6 : Int).toNat = 6 from rfl, Nat.reduceMul, Nat.reduceEqDiff, Go.Addr.add, ↓reduceIte] at hx433_1); (try simp only [show (6 : Int).toNat = 6 from rfl, Nat.reduceMul, Nat.reduceEqDiff, Go.Addr.add, ↓reduceIte] at hx433_2); (try simp only [show (6 : Int).toNat = 6 from rfl, Nat.reduceMul, Nat.reduceEqDiff, Go.Addr.add, ↓reduceIte] at hx433_3); (try simp only [show (6 : Int).toNat = 6 from rfl, Nat.reduceMul, Nat.reduceEqDiff, Go.Addr.add, ↓reduceIte] at hx433_4); have qi433 : (6 < t425.length) = True := eq_true (by omega); (try rw [show ((6 : Int)).toNat = 6 from rfl] at hx433_0); (try rw [show 6 * 5 = 30 from rfl] at hx433_0); (try rw [show ((6 : Int)).toNat = 6 from rfl] at hx433_1); (try rw [show 6 * 5 = 30 from rfl] at hx433_1); (try rw [show ((6 : Int)).toNat = 6 from rfl] at hx433_2); (try rw [show 6 * 5 = 30 from rfl] at hx433_2); (try rw [show ((6 : Int)).toNat = 6 from rfl] at hx433_3); (try rw [show 6 * 5 = 30 from rfl] at hx433_3); (try rw [show ((6 : Int)).toNat = 6 from rfl] at hx433_4); (try rw [show 6 * 5 = 30 from rfl] at hx433_4); have hn433_0 : ad431.block ≠ gb430 := Kd.own_blk (Kd.R_ne HO427.out BK430.out (by decide)); have hn433_1 : ad431.block ≠ gb430 := Kd.own_blk (Kd.R_ne HO427.out BK430.out (by decide)); replace hx433_0 := (cell_far (p := ⟨gb430, 0, none⟩) x67_19 (.int .i64 t428)).trans hx433_0; replace hx433_1 := (cell_far (p := ⟨gb430, 0, none⟩) x67_19 (.int .i64 t428)).trans hx433_1; replace hx433_2 := (cell_far (p := ⟨gb430, 0, none⟩) x67_19 (.int .i64 t428)).trans hx433_2; replace hx433_3 := (cell_far (p := ⟨gb430, 0, none⟩) x67_19 (.int .i64 t428)).trans hx433_3; replace hx433_4 := (cell_far (p := ⟨gb430, 0, none⟩) x67_19 (.int .i64 t428)).trans hx433_4; replace hx433_0 := (cell_far (p := ⟨gb430, 1, none⟩) x67_20 (.int .i64 t429)).trans hx433_0; replace hx433_1 := (cell_far (p := ⟨gb430, 1, none⟩) x67_20 (.int .i64 t429)).trans hx433_1; replace hx433_2 := (cell_far (p := ⟨gb430, 1, none⟩) x67_20 (.int .i64 t429)).trans hx433_2; replace hx433_3 := (cell_far (p := ⟨gb430, 1, none⟩) x67_20 (.int .i64 t429)).trans hx433_3; replace hx433_4 := (cell_far (p := ⟨gb430, 1, none⟩) x67_20 (.int .i64 t429)).trans hx433_4; clear hn433_0; clear hn433_1; replace p433 := eq_true p433; replace q433 := eq_true q433))
        go_ret
        exact ⟨x67_27, x67_9⟩
      ·rw [if_neg c7] at H
       exact absurd H (by simp)
     ·rw [if_neg c6] at H
      have c6b0 : (((rd_T30 t425 4).f0) == 3 && (((rd_T30 t425 4).f1) == 7 && ((((rd_T30 t425 4).f2).toList) == ([46, 46] : List UInt8) && (((rd_T30 t425 4).f3) == 0 && (((rd_T30 t425 4).f4) == 0))))) = false := by simpa using c6
      (try (have c6b1 : decide (((rd_T30 t425 4).f0) = 3 && (((rd_T30 t425 4).f1) == 7 && ((((rd_T30 t425 4).f2).toList) == ([46, 46] : List UInt8) && (((rd_T30 t425 4).f3) == 0 && (((rd_T30 t425 4).f4) == 0))))) = false := by simpa using c6))
      (try (have c6b2 : (((rd_T30 t425 4).f0) == 3 && (((rd_T30 t425 4).f1) == 7 && ((((rd_T30 t425 4).f2).toList) == ([46, 46] : List UInt8) && (((rd_T30 t425 4).f3) == 0 && (((rd_T30 t425 4).f4) == 0))))) = false := by simpa using c6))
      (try (have c6b3 : ¬ (((rd_T30 t425 4).f0) = 3 && (((rd_T30 t425 4).f1) == 7 && ((((rd_T30 t425 4).f2).toList) == ([46, 46] : List UInt8) && (((rd_T30 t425 4).f3) == 0 && (((rd_T30 t425 4).f4) == 0))))) := by simpa using c6))
      clear c6
      obtain rfl := Option.some.inj H
      go_enter Tryd.func12, Tryd.ntmps12
      go_wp2_with (first | ((with_reducible refine gate_callee (f := 9) rfl ?_); refine goesL_ (some 4) rfl rfl Tryd.func9 (by kernel_rfl) rfl #[.string (⟨#[108, 101, 116, 32, 120, 61, 49, 46, 46, 50, 32, 35, 32, 121]⟩ : ByteArray)] rfl x67_11 ?_; (with_reducible refine (lex_All.calls (hG := x67_4) (⟨#[108, 101, 116, 32, 120, 61, 49, 46, 46, 50, 32, 35, 32, 121]⟩ : ByteArray) t425 t428 t429 _ A1.out).mono ?_); rintro e w22 ⟨v426, rfl, ho0, hb⟩; refine ⟨_, rfl, ?_⟩; have n0_ := Aside0.mk (Kd.R_lower ho0 (below_size x67_12)); have n1_ := Aside0.mk (below_step x67_12 hb); clear HB; have HO427 := n0_; have HB := n1_; clear n0_ n1_) | ((with_reducible refine gate_dst (N := 2) rfl ?_); refine box_event ?hg (N := 2) ?hd (cs := #[.int .i64 0, .int .i64 0]) (t := 25) ?hr ?_; (case hd => rfl); (case hg => rfl); (case hr => first | (go_simp; done) | (go_simp; rfl)); intro gb430 hg w23 hbox hb; have n0_ := Aside0.mk (Kd.R_below x67_23 hb); have n1_ := Aside0.mk (below_step x67_12 hb); have n2_ := Aside0.mk (hbox); have n3_ := Aside0.mk ((by rw [hg]; exact (below_size x67_12) : w.heap.size ≤ gb430)); have n4_ := Aside0.mk ((by rw [hg]; exact (below_size x67_12) : w.heap.size ≤ gb430)); clear HO427; clear HB; have HO427 := n0_; have HB := n1_; have BK430 := n2_; have GW430 := n3_; have GE430 := n4_; clear n0_ n1_ n2_ n3_ n4_; clear hb hbox hg; have hcz24_0 : w23.cell? ⟨gb430, 0, none⟩ = some (.int .i64 0) := (blk_cell BK430.out 0).trans rfl; have hcz24_1 : w23.cell? ⟨gb430, 1, none⟩ = some (.int .i64 0) := (blk_cell BK430.out 1).trans rfl; have hfz24_0 := blk_frozen BK430.out 0; have hfz24_1 := blk_frozen BK430.out 1; obtain ⟨Ao25, co25, eo25⟩ := Kd.R_slice HO427.out; subst eo25; have p431 : 0 ≤ (1 : Int) := (by omega); have q431 : 1 < (t425.length : Int) := of_decide_eq_true x67_28; obtain ⟨ad431, e431, hx431_0, hx431_1, hx431_2, hx431_3, hx431_4⟩ := at_T30 (Kd.R_reads' HO427.out).2.2 1 p431 q431; cases e431; (try simp only [show (1 : Int).toNat = 1 from rfl, Nat.reduceMul, Nat.reduceEqDiff, Go.Addr.add, ↓reduceIte] at hx431_0); (try simp only [show (1 : Int).toNat = 1 from rfl, Nat.reduceMul, Nat.reduceEqDiff, Go.Addr.add, ↓reduceIte] at hx431_1); (try simp only [show (1 : Int).toNat = 1 from rfl, Nat.reduceMul, Nat.reduceEqDiff, Go.Addr.add, ↓reduceIte] at hx431_2); (try simp only [show (1 : Int).toNat = 1 from rfl, Nat.reduceMul, Nat.reduceEqDiff, Go.Addr.add, ↓reduceIte] at hx431_3); (try simp only [show (1 : Int).toNat = 1 from rfl, Nat.reduceMul, Nat.reduceEqDiff, Go.Addr.add, ↓reduceIte] at hx431_4); have qi431 : (1 < t425.length) = True := eq_true (by omega); (try rw [show ((1 : Int)).toNat = 1 from rfl] at hx431_0); (try rw [show 1 * 5 = 5 from rfl] at hx431_0); (try rw [show ((1 : Int)).toNat = 1 from rfl] at hx431_1); (try rw [show 1 * 5 = 5 from rfl] at hx431_1); (try rw [show ((1 : Int)).toNat = 1 from rfl] at hx431_2); (try rw [show 1 * 5 = 5 from rfl] at hx431_2); (try rw [show ((1 : Int)).toNat = 1 from rfl] at hx431_3); (try rw [show 1 * 5 = 5 from rfl] at hx431_3); (try rw [show ((1 : Int)).toNat = 1 from rfl] at hx431_4); (try rw [show 1 * 5 = 5 from rfl] at hx431_4); have hn431_0 : ad431.block ≠ gb430 := Kd.own_blk (Kd.R_ne HO427.out BK430.out (by decide)); have hn431_1 : ad431.block ≠ gb430 := Kd.own_blk (Kd.R_ne HO427.out BK430.out (by decide)); replace hx431_0 := (cell_far (p := ⟨gb430, 0, none⟩) x67_15 (.int .i64 t428)).trans hx431_0; replace hx431_1 := (cell_far (p := ⟨gb430, 0, none⟩) x67_15 (.int .i64 t428)).trans hx431_1; replace hx431_2 := (cell_far (p := ⟨gb430, 0, none⟩) x67_15 (.int .i64 t428)).trans hx431_2; replace hx431_3 := (cell_far (p := ⟨gb430, 0, none⟩) x67_15 (.int .i64 t428)).trans hx431_3; replace hx431_4 := (cell_far (p := ⟨gb430, 0, none⟩) x67_15 (.int .i64 t428)).trans hx431_4; replace hx431_0 := (cell_far (p := ⟨gb430, 1, none⟩) x67_16 (.int .i64 t429)).trans hx431_0; replace hx431_1 := (cell_far (p := ⟨gb430, 1, none⟩) x67_16 (.int .i64 t429)).trans hx431_1; replace hx431_2 := (cell_far (p := ⟨gb430, 1, none⟩) x67_16 (.int .i64 t429)).trans hx431_2; replace hx431_3 := (cell_far (p := ⟨gb430, 1, none⟩) x67_16 (.int .i64 t429)).trans hx431_3; replace hx431_4 := (cell_far (p := ⟨gb430, 1, none⟩) x67_16 (.int .i64 t429)).trans hx431_4; clear hn431_0; clear hn431_1; replace p431 := eq_true p431; replace q431 := eq_true q431; have p432 : 0 ≤ (4 : Int) := (by omega); have q432 : 4 < (t425.length : Int) := of_decide_eq_true x67_28; obtain ⟨ad432, e432, hx432_0, hx432_1, hx432_2, hx432_3, hx432_4⟩ := at_T30 (Kd.R_reads' HO427.out).2.2 4 p432 q432; obtain rfl : ad431 = ad432 := (by injection e432); (try simp only [show (4 : Int).toNat = 4 from rfl, Nat.reduceMul, Nat.reduceEqDiff, Go.Addr.add, ↓reduceIte] at hx432_0); (try simp only [show (4 : Int).toNat = 4 from rfl, Nat.reduceMul, Nat.reduceEqDiff, Go.Addr.add, ↓reduceIte] at hx432_1); (try simp only [show (4 : Int).toNat = 4 from rfl, Nat.reduceMul, Nat.reduceEqDiff, Go.Addr.add, ↓reduceIte] at hx432_2); (try simp only [show (4 : Int).toNat = 4 from rfl, Nat.reduceMul, Nat.reduceEqDiff, Go.Addr.add, ↓reduceIte] at hx432_3); (try simp only [show (4 : Int).toNat = 4 from rfl, Nat.reduceMul, Nat.reduceEqDiff, Go.Addr.add, ↓reduceIte] at hx432_4); have qi432 : (4 < t425.length) = True := eq_true (by omega); (try rw [show ((4 : Int)).toNat = 4 from rfl] at hx432_0); (try rw [show 4 * 5 = 20 from rfl] at hx432_0); (try rw [show ((4 : Int)).toNat = 4 from rfl] at hx432_1); (try rw [show 4 * 5 = 20 from rfl] at hx432_1); (try rw [show ((4 : Int)).toNat = 4 from rfl] at hx432_2); (try rw [show 4 * 5 = 20 from rfl] at hx432_2); (try rw [show ((4 : Int)).toNat = 4 from rfl] at hx432_3); (try rw [show 4 * 5 = 20 from rfl] at hx432_3); (try rw [show ((4 : Int)).toNat = 4 from rfl] at hx432_4); (try rw [show 4 * 5 = 20 from rfl] at hx432_4); have hn432_0 : ad431.block ≠ gb430 := Kd.own_blk (Kd.R_ne HO427.out BK430.out (by decide)); have hn432_1 : ad431.block ≠ gb430 := Kd.own_blk (Kd.R_ne HO427.out BK430.out (by decide)); replace hx432_0 := (cell_far (p := ⟨gb430, 0, none⟩) x67_17 (.int .i64 t428)).trans hx432_0; replace hx432_1 := (cell_far (p := ⟨gb430, 0, none⟩) x67_17 (.int .i64 t428)).trans hx432_1; replace hx432_2 := (cell_far (p := ⟨gb430, 0, none⟩) x67_17 (.int .i64 t428)).trans hx432_2; replace hx432_3 := (cell_far (p := ⟨gb430, 0, none⟩) x67_17 (.int .i64 t428)).trans hx432_3; replace hx432_4 := (cell_far (p := ⟨gb430, 0, none⟩) x67_17 (.int .i64 t428)).trans hx432_4; replace hx432_0 := (cell_far (p := ⟨gb430, 1, none⟩) x67_18 (.int .i64 t429)).trans hx432_0; replace hx432_1 := (cell_far (p := ⟨gb430, 1, none⟩) x67_18 (.int .i64 t429)).trans hx432_1; replace hx432_2 := (cell_far (p := ⟨gb430, 1, none⟩) x67_18 (.int .i64 t429)).trans hx432_2; replace hx432_3 := (cell_far (p := ⟨gb430, 1, none⟩) x67_18 (.int .i64 t429)).trans hx432_3; replace hx432_4 := (cell_far (p := ⟨gb430, 1, none⟩) x67_18 (.int .i64 t429)).trans hx432_4; clear hn432_0; clear hn432_1; replace p432 := eq_true p432; replace q432 := eq_true q432))
      go_ret
      exact ⟨x67_27, x67_9⟩
    ·rw [if_neg c5] at H
     exact absurd H (by simp)
   ·rw [if_neg c4] at H
    have c4b0 : (((rd_T30 t425 1).f0) == 1 && (((rd_T30 t425 1).f1) == 4 && ((((rd_T30 t425 1).f2).toList) == ([120] : List UInt8) && (((rd_T30 t425 1).f3) == 0 && (((rd_T30 t425 1).f4) == 0))))) = false := by simpa using c4
    (try (have c4b1 : decide (((rd_T30 t425 1).f0) = 1 && (((rd_T30 t425 1).f1) == 4 && ((((rd_T30 t425 1).f2).toList) == ([120] : List UInt8) && (((rd_T30 t425 1).f3) == 0 && (((rd_T30 t425 1).f4) == 0))))) = false := by simpa using c4))
    (try (have c4b2 : (((rd_T30 t425 1).f0) == 1 && (((rd_T30 t425 1).f1) == 4 && ((((rd_T30 t425 1).f2).toList) == ([120] : List UInt8) && (((rd_T30 t425 1).f3) == 0 && (((rd_T30 t425 1).f4) == 0))))) = false := by simpa using c4))
    (try (have c4b3 : ¬ (((rd_T30 t425 1).f0) = 1 && (((rd_T30 t425 1).f1) == 4 && ((((rd_T30 t425 1).f2).toList) == ([120] : List UInt8) && (((rd_T30 t425 1).f3) == 0 && (((rd_T30 t425 1).f4) == 0))))) := by simpa using c4))
    clear c4
    obtain rfl := Option.some.inj H
    go_enter Tryd.func12, Tryd.ntmps12
    go_wp2_with (first | ((with_reducible refine gate_callee (f := 9) rfl ?_); refine goesL_ (some 4) rfl rfl Tryd.func9 (by kernel_rfl) rfl #[.string (⟨#[108, 101, 116, 32, 120, 61, 49, 46, 46, 50, 32, 35, 32, 121]⟩ : ByteArray)] rfl x67_11 ?_; (with_reducible refine (lex_All.calls (hG := x67_4) (⟨#[108, 101, 116, 32, 120, 61, 49, 46, 46, 50, 32, 35, 32, 121]⟩ : ByteArray) t425 t428 t429 _ A1.out).mono ?_); rintro e w26 ⟨v426, rfl, ho0, hb⟩; refine ⟨_, rfl, ?_⟩; have n0_ := Aside0.mk (Kd.R_lower ho0 (below_size x67_12)); have n1_ := Aside0.mk (below_step x67_12 hb); clear HB; have HO427 := n0_; have HB := n1_; clear n0_ n1_) | ((with_reducible refine gate_dst (N := 2) rfl ?_); refine box_event ?hg (N := 2) ?hd (cs := #[.int .i64 0, .int .i64 0]) (t := 25) ?hr ?_; (case hd => rfl); (case hg => rfl); (case hr => first | (go_simp; done) | (go_simp; rfl)); intro gb430 hg w27 hbox hb; have n0_ := Aside0.mk (Kd.R_below x67_23 hb); have n1_ := Aside0.mk (below_step x67_12 hb); have n2_ := Aside0.mk (hbox); have n3_ := Aside0.mk ((by rw [hg]; exact (below_size x67_12) : w.heap.size ≤ gb430)); have n4_ := Aside0.mk ((by rw [hg]; exact (below_size x67_12) : w.heap.size ≤ gb430)); clear HO427; clear HB; have HO427 := n0_; have HB := n1_; have BK430 := n2_; have GW430 := n3_; have GE430 := n4_; clear n0_ n1_ n2_ n3_ n4_; clear hb hbox hg; have hcz28_0 : w27.cell? ⟨gb430, 0, none⟩ = some (.int .i64 0) := (blk_cell BK430.out 0).trans rfl; have hcz28_1 : w27.cell? ⟨gb430, 1, none⟩ = some (.int .i64 0) := (blk_cell BK430.out 1).trans rfl; have hfz28_0 := blk_frozen BK430.out 0; have hfz28_1 := blk_frozen BK430.out 1; obtain ⟨Ao29, co29, eo29⟩ := Kd.R_slice HO427.out; subst eo29; have p431 : 0 ≤ (1 : Int) := (by omega); have q431 : 1 < (t425.length : Int) := of_decide_eq_true x67_28; obtain ⟨ad431, e431, hx431_0, hx431_1, hx431_2, hx431_3, hx431_4⟩ := at_T30 (Kd.R_reads' HO427.out).2.2 1 p431 q431; cases e431; (try simp only [show (1 : Int).toNat = 1 from rfl, Nat.reduceMul, Nat.reduceEqDiff, Go.Addr.add, ↓reduceIte] at hx431_0); (try simp only [show (1 : Int).toNat = 1 from rfl, Nat.reduceMul, Nat.reduceEqDiff, Go.Addr.add, ↓reduceIte] at hx431_1); (try simp only [show (1 : Int).toNat = 1 from rfl, Nat.reduceMul, Nat.reduceEqDiff, Go.Addr.add, ↓reduceIte] at hx431_2); (try simp only [show (1 : Int).toNat = 1 from rfl, Nat.reduceMul, Nat.reduceEqDiff, Go.Addr.add, ↓reduceIte] at hx431_3); (try simp only [show (1 : Int).toNat = 1 from rfl, Nat.reduceMul, Nat.reduceEqDiff, Go.Addr.add, ↓reduceIte] at hx431_4); have qi431 : (1 < t425.length) = True := eq_true (by omega); (try rw [show ((1 : Int)).toNat = 1 from rfl] at hx431_0); (try rw [show 1 * 5 = 5 from rfl] at hx431_0); (try rw [show ((1 : Int)).toNat = 1 from rfl] at hx431_1); (try rw [show 1 * 5 = 5 from rfl] at hx431_1); (try rw [show ((1 : Int)).toNat = 1 from rfl] at hx431_2); (try rw [show 1 * 5 = 5 from rfl] at hx431_2); (try rw [show ((1 : Int)).toNat = 1 from rfl] at hx431_3); (try rw [show 1 * 5 = 5 from rfl] at hx431_3); (try rw [show ((1 : Int)).toNat = 1 from rfl] at hx431_4); (try rw [show 1 * 5 = 5 from rfl] at hx431_4); have hn431_0 : ad431.block ≠ gb430 := Kd.own_blk (Kd.R_ne HO427.out BK430.out (by decide)); have hn431_1 : ad431.block ≠ gb430 := Kd.own_blk (Kd.R_ne HO427.out BK430.out (by decide)); replace hx431_0 := (cell_far (p := ⟨gb430, 0, none⟩) x67_15 (.int .i64 t428)).trans hx431_0; replace hx431_1 := (cell_far (p := ⟨gb430, 0, none⟩) x67_15 (.int .i64 t428)).trans hx431_1; replace hx431_2 := (cell_far (p := ⟨gb430, 0, none⟩) x67_15 (.int .i64 t428)).trans hx431_2; replace hx431_3 := (cell_far (p := ⟨gb430, 0, none⟩) x67_15 (.int .i64 t428)).trans hx431_3; replace hx431_4 := (cell_far (p := ⟨gb430, 0, none⟩) x67_15 (.int .i64 t428)).trans hx431_4; replace hx431_0 := (cell_far (p := ⟨gb430, 1, none⟩) x67_16 (.int .i64 t429)).trans hx431_0; replace hx431_1 := (cell_far (p := ⟨gb430, 1, none⟩) x67_16 (.int .i64 t429)).trans hx431_1; replace hx431_2 := (cell_far (p := ⟨gb430, 1, none⟩) x67_16 (.int .i64 t429)).trans hx431_2; replace hx431_3 := (cell_far (p := ⟨gb430, 1, none⟩) x67_16 (.int .i64 t429)).trans hx431_3; replace hx431_4 := (cell_far (p := ⟨gb430, 1, none⟩) x67_16 (.int .i64 t429)).trans hx431_4; clear hn431_0; clear hn431_1; replace p431 := eq_true p431; replace q431 := eq_true q431))
    go_ret
    exact ⟨x67_27, x67_9⟩
  ·rw [if_neg c3] at H
   exact absurd H (by simp)
 ·rw [if_neg c2] at H
  have c2b0 := beq_eq_false_iff_ne.mpr c2
  have c2b1 := bne_iff_ne.mpr c2
  obtain rfl := Option.some.inj H
  go_enter Tryd.func12, Tryd.ntmps12
  go_wp2_with (first | ((with_reducible refine gate_callee (f := 9) rfl ?_); refine goesL_ (some 4) rfl rfl Tryd.func9 (by kernel_rfl) rfl #[.string (⟨#[108, 101, 116, 32, 120, 61, 49, 46, 46, 50, 32, 35, 32, 121]⟩ : ByteArray)] rfl x67_11 ?_; (with_reducible refine (lex_All.calls (hG := x67_4) (⟨#[108, 101, 116, 32, 120, 61, 49, 46, 46, 50, 32, 35, 32, 121]⟩ : ByteArray) t425 t428 t429 _ A1.out).mono ?_); rintro e w30 ⟨v426, rfl, ho0, hb⟩; refine ⟨_, rfl, ?_⟩; have n0_ := Aside0.mk (Kd.R_lower ho0 (below_size x67_12)); have n1_ := Aside0.mk (below_step x67_12 hb); clear HB; have HO427 := n0_; have HB := n1_; clear n0_ n1_) | ((with_reducible refine gate_dst (N := 2) rfl ?_); refine box_event ?hg (N := 2) ?hd (cs := #[.int .i64 0, .int .i64 0]) (t := 25) ?hr ?_; (case hd => rfl); (case hg => rfl); (case hr => first | (go_simp; done) | (go_simp; rfl)); intro gb430 hg w31 hbox hb; have n0_ := Aside0.mk (Kd.R_below x67_23 hb); have n1_ := Aside0.mk (below_step x67_12 hb); have n2_ := Aside0.mk (hbox); have n3_ := Aside0.mk ((by rw [hg]; exact (below_size x67_12) : w.heap.size ≤ gb430)); have n4_ := Aside0.mk ((by rw [hg]; exact (below_size x67_12) : w.heap.size ≤ gb430)); clear HO427; clear HB; have HO427 := n0_; have HB := n1_; have BK430 := n2_; have GW430 := n3_; have GE430 := n4_; clear n0_ n1_ n2_ n3_ n4_; clear hb hbox hg; have hcz32_0 : w31.cell? ⟨gb430, 0, none⟩ = some (.int .i64 0) := (blk_cell BK430.out 0).trans rfl; have hcz32_1 : w31.cell? ⟨gb430, 1, none⟩ = some (.int .i64 0) := (blk_cell BK430.out 1).trans rfl; have hfz32_0 := blk_frozen BK430.out 0; have hfz32_1 := blk_frozen BK430.out 1; obtain ⟨Ao33, co33, eo33⟩ := Kd.R_slice HO427.out; subst eo33))
  go_ret
  exact ⟨x67_27, x67_9⟩
end Go.Proofs.YtjolkombhdibcaaDoor.Print
end
section
namespace Go.Proofs.YtjolkombhdibcaaDoor.Sp
open Go.RowKit Go.Proofs.YtjolkombhdibcaaDoorW.PrintWords Go.Proofs.YtjolkombhdibcaaDoorW.PrintMore Go.Proofs.YtjolkombhdibcaaDoor.Given Go.Proofs.YtjolkombhdibcaaDoor.Print
set_option linter.unusedVariables false
set_option linter.unusedSimpArgs false
theorem line_of (c : UInt8) : lineB c = true ↔ c ≠ 10 := by unfold lineB; simp
theorem rblank_l1 (l : List UInt8) (hl : l.length ≤ 1000000) (X : Int) : ∀ (m : Nat) (r : List UInt8) (q : Nat), r.length ≤ m → l.drop q = r → q ≤ l.length →
    Ev (fun k => casketref11_Blank.l0 k (bs l) ((q + Given.runN lineB r : Nat) : Int)) X → Ev (fun k => casketref11_Blank.l1 k (bs l) (q : Int)) X := by
  intro m
  induction m with
  | zero =>
    intro r q hm h hq hX
    have : r = [] := List.eq_nil_of_length_eq_zero (by omega)
    subst this
    have : l.length ≤ q := by have := List.drop_eq_nil_iff.1 h; omega
    refine Ev.step (fun k => by rw [casketref11_Blank.l1]) ?_
    exact Ev.no (by rw [bs_size]; omega) hX
  | succ m ih =>
    intro r q hm h hq hX
    cases r with
    | nil =>
      have : l.length ≤ q := by have := List.drop_eq_nil_iff.1 h; omega
      refine Ev.step (fun k => by rw [casketref11_Blank.l1]) ?_
      exact Ev.no (by rw [bs_size]; omega) hX
    | cons c r =>
      obtain ⟨h1, h2, h3⟩ := drop_cons h
      refine Ev.step (fun k => by rw [casketref11_Blank.l1]) ?_
      refine Ev.yes (by rw [bs_size]; omega) (Ev.yes (by omega) ?_)
      rw [bt_bs, h1]
      by_cases hc : c = 10
      · refine Ev.yes (by rw [hc]; decide) ?_
        rw [run_stop (by rw [hc]; decide)] at hX
        exact hX
      · refine Ev.no (fun e => hc (u8_eq (n := 10) e (by decide))) ?_
        have e1 : wrap64 ((q : Int) + 1) = ((q + 1 : Nat) : Int) := wrapP (a := q) (b := 1) (by omega)
        rw [e1]
        refine ih r (q + 1) (by simpa using hm) h3 h2 ?_
        rw [run_cons ((line_of c).2 hc), show q + (1 + Given.runN lineB r) = q + 1 + Given.runN lineB r by omega] at hX
        exact hX
theorem rblank_ev (l : List UInt8) (hl : l.length ≤ 1000000) : ∀ (m p : Nat), l.length - p ≤ m → p ≤ l.length →
    ∃ q : Nat, p ≤ q ∧ q ≤ l.length ∧ Ev (fun k => casketref11_Blank.l0 k (bs l) (p : Int)) (q : Int) ∧ toks (l.drop p) p = toks (l.drop q) q ∧ (∀ c r, l.drop q = c :: r → ¬ blank c ∧ c ≠ 35) := by
  intro m
  induction m with
  | zero =>
    intro p hm hp
    have hd : l.drop p = [] := List.drop_eq_nil_of_le (by omega)
    refine ⟨p, Nat.le_refl _, hp, ?_, rfl, fun c r e => by rw [hd] at e; cases e⟩
    refine Ev.step (fun k => by rw [casketref11_Blank.l0]) ?_
    exact Ev.no (by rw [bs_size]; omega) (Ev.ret rfl)
  | succ m ih =>
    intro p hm hp
    cases h : l.drop p with
    | nil =>
      have : l.length ≤ p := by have := List.drop_eq_nil_iff.1 h; omega
      refine ⟨p, Nat.le_refl _, hp, ?_, by rw [h], fun c r e => by rw [h] at e; cases e⟩
      refine Ev.step (fun k => by rw [casketref11_Blank.l0]) ?_
      exact Ev.no (by rw [bs_size]; omega) (Ev.ret rfl)
    | cons c r =>
      obtain ⟨h1, h2, h3⟩ := drop_cons h
      have e1 : wrap64 ((p : Int) + 1) = ((p + 1 : Nat) : Int) := wrapP (a := p) (b := 1) (by omega)
      have start : ∀ X : Int, (Ev (fun k => casketref11_Blank.j1 k (bs l) (p : Int) (c.toNat : Int) (decide (blank c))) X) → Ev (fun k => casketref11_Blank.l0 k (bs l) (p : Int)) X := by
        intro X hX
        refine Ev.step (fun k => by rw [casketref11_Blank.l0]) ?_
        refine Ev.yes (by rw [bs_size]; omega) (Ev.yes (by omega) ?_)
        rw [bt_bs, h1]
        by_cases c32 : c = 32
        · rw [decide_eq_true (.inl c32)] at hX
          exact Ev.yes (by rw [c32]; decide) hX
        · refine Ev.no (fun e => c32 (u8_eq (n := 32) e (by decide))) ?_
          by_cases c9 : c = 9
          · rw [decide_eq_true (.inr (.inl c9))] at hX
            exact Ev.yes (by rw [c9]; decide) hX
          · refine Ev.no (fun e => c9 (u8_eq (n := 9) e (by decide))) ?_
            have : ((c.toNat : Int) == 10) = decide (blank c) := by
              by_cases c10 : c = 10
              · rw [decide_eq_true (.inr (.inr c10)), c10]; decide
              · rw [decide_eq_false (by rintro (h | h | h); exact c32 h; exact c9 h; exact c10 h)]
                exact beq_eq_false_iff_ne.2 (fun e => c10 (u8_eq (n := 10) e (by decide)))
            rw [this]
            exact hX
      by_cases hb : blank c
      · obtain ⟨q, q1, q2, q3, q4, q5⟩ := ih (p + 1) (by omega) h2
        refine ⟨q, by omega, q2, start _ ?_, ?_, q5⟩
        · rw [decide_eq_true hb]
          refine Ev.step (fun k => by rw [casketref11_Blank.j1]) ?_
          rw [e1]
          exact Ev.yes rfl q3
        · rw [toks_blank hb, ← h3]
          exact q4
      · by_cases h35 : c = 35
        · have hle := runN_le lineB r
          have hrl : r.length = l.length - (p + 1) := by rw [← h3, List.length_drop]
          obtain ⟨q, q1, q2, q3, q4, q5⟩ := ih (p + (1 + Given.runN lineB r)) (by omega) (by omega)
          refine ⟨q, by omega, q2, start _ ?_, ?_, q5⟩
          · rw [decide_eq_false hb]
            refine Ev.step (fun k => by rw [casketref11_Blank.j1]) ?_
            refine Ev.no (by simp) (Ev.yes (by rw [h35]; decide) ?_)
            refine rblank_l1 l hl _ _ (c :: r) p (Nat.le_refl _) h hp ?_
            rw [run_cons (by rw [h35]; decide)]
            exact q3
          · rw [h35, toks_hash, ← q4]
            congr 1
            rw [← h3, List.drop_drop, show p + 1 + Given.runN lineB (l.drop (p + 1)) = p + (1 + Given.runN lineB (l.drop (p + 1))) by omega]
        · refine ⟨p, Nat.le_refl _, hp, start _ ?_, by rw [h], fun c' r' e => ?_⟩
          · rw [decide_eq_false hb]
            refine Ev.step (fun k => by rw [casketref11_Blank.j1]) ?_
            exact Ev.no (by simp) (Ev.no (fun e => h35 (u8_eq (n := 35) e (by decide))) (Ev.ret rfl))
          · rw [h] at e
            obtain ⟨rfl, rfl⟩ := List.cons.inj e
            exact ⟨hb, h35⟩
theorem tok_kind (k : Int) (t : List UInt8) (i b n : Int) : (tok k t i b n).1 = k := rfl
theorem qS_kind : ∀ (m : Nat) (r b : List UInt8) (n : Nat), r.length ≤ m → te (qS r b n) = 0 → (qS r b n).1 = 6 := by
  intro m
  induction m with
  | zero =>
    intro r b n hm h
    have : r = [] := List.eq_nil_of_length_eq_zero (by omega)
    subst this
    rw [qS_nil] at h
    cases h
  | succ m ih =>
    intro r b n hm h
    cases r with
    | nil => rw [qS_nil] at h; cases h
    | cons c r =>
      have hm' : r.length ≤ m := by simpa using hm
      rw [qS_cons] at h ⊢
      by_cases h34 : c = 34
      · rw [if_pos h34]; rfl
      · rw [if_neg h34] at h ⊢
        by_cases h92 : c = 92
        · rw [if_pos h92] at h ⊢
          cases r with
          | nil => cases h
          | cons d r1 =>
            dsimp only at h ⊢
            have hm1 : r1.length ≤ m := by simp at hm'; omega
            by_cases hd : d = 92 ∨ d = 34
            · rw [if_pos hd] at h ⊢
              exact ih r1 _ _ hm1 h
            · rw [if_neg hd] at h ⊢
              by_cases h110 : d = 110
              · rw [if_pos h110] at h ⊢
                exact ih r1 _ _ hm1 h
              · rw [if_neg h110] at h ⊢
                by_cases h120 : d = 120
                · rw [if_pos h120] at h ⊢
                  match r1, hm1, h with
                  | [], _, h => cases h
                  | [a], _, h => cases h
                  | a :: a2 :: r2, hm1, h =>
                    dsimp only at h ⊢
                    cases ha : hexV a with
                    | none => rw [ha] at h; cases h
                    | some x =>
                      cases ha2 : hexV a2 with
                      | none => rw [ha, ha2] at h; cases h
                      | some y =>
                        rw [ha, ha2] at h
                        dsimp only at h ⊢
                        exact ih r2 _ _ (by simp at hm1; omega) h
                · rw [if_neg h120] at h; cases h
        · rw [if_neg h92] at h ⊢
          by_cases hc : 32 ≤ c.toNat ∧ c.toNat ≤ 126
          · rw [if_pos hc] at h ⊢
            exact ih r _ _ hm' h
          · rw [if_neg hc] at h; cases h
theorem next_kind (c : UInt8) (r : List UInt8) (h : te (nextT (c :: r)) = 0) : (nextT (c :: r)).1 ≠ 7 := by
  rw [nextT_cons] at h ⊢
  by_cases h1 : lowB c = true
  · rw [if_pos h1] at h ⊢
    unfold nameT at h ⊢
    by_cases a1 : 31 < ((c :: r).takeWhile nameB).length
    · rw [if_pos a1] at h; cases h
    · rw [if_neg a1] at h ⊢
      by_cases a2 : (c :: r).takeWhile nameB = [105, 110, 102] ∨ (c :: r).takeWhile nameB = [110, 97, 110]
      · rw [if_pos a2, tok_kind]; decide
      · rw [if_neg a2]
        by_cases a3 : (c :: r).takeWhile nameB ∈ wordsL
        · rw [if_pos a3, tok_kind]; decide
        · rw [if_neg a3, tok_kind]; decide
  · rw [if_neg h1] at h ⊢
    by_cases h2 : Lib.hasPrefix (c :: r) [48, 120] = true
    · rw [if_pos h2] at h ⊢
      unfold floatTok at h ⊢
      by_cases a1 : (pfS ((c :: r).take (dblN (c :: r)))).2 = 0
      · rw [if_pos a1, tok_kind]; decide
      · rw [if_neg a1] at h; cases h
    · rw [if_neg h2] at h ⊢
      by_cases h3 : isDig c = true
      · rw [if_pos h3] at h ⊢
        unfold wholeTok at h ⊢
        by_cases a1 : (parseIntT ((c :: r).takeWhile isDig)).2 = 0
        · rw [if_pos a1, tok_kind]; decide
        · rw [if_neg a1] at h; cases h
      · rw [if_neg h3] at h ⊢
        by_cases h4 : c = 34
        · rw [if_pos h4] at h ⊢
          rw [qS_kind _ r [] 1 (Nat.le_refl _) h]; decide
        · rw [if_neg h4] at h ⊢
          rw [markT_eq] at h ⊢
          by_cases a1 : 2 ≤ (c :: r).length ∧ (c :: r).take 2 ∈ marks2
          · rw [if_pos a1, tok_kind]; decide
          · rw [if_neg a1] at h ⊢
            by_cases a2 : [c] ∈ marks1
            · rw [if_pos a2, tok_kind]; decide
            · rw [if_neg a2] at h; cases h
theorem refT_ok {t : T7} (h : te t = 0) (p q : Nat) (hq : tn t = q) : refT t p = (t.1, (p : Int), t.2.2.1, t.2.2.2.1, t.2.2.2.2.1, ((p + q : Nat) : Int), 0, 0) := by
  unfold refT
  rw [if_pos h, hq]
  simp
theorem refT_no {t : T7} (h : te t ≠ 0) (p : Nat) : refT t p = (0, 0, bs [], 0, 0, (p : Int), te t, (p : Int)) := by
  unfold refT
  rw [if_neg h]
theorem rall_l0 (l : List UInt8) (hl : l.length ≤ 1000000) : ∀ (m p : Nat) (acc : List S30), l.length - p ≤ m → p ≤ l.length → acc.length ≤ p →
    Ev (fun k => casketref11_All.l0 k (bs l) acc (p : Int)) (col acc (toks (l.drop p) p)) := by
  intro m
  induction m with
  | zero =>
    intro p acc hm hp ha
    have hd : l.drop p = [] := List.drop_eq_nil_of_le (by omega)
    have hpl : p = l.length := by omega
    obtain ⟨q, q1, q2, q3, q4, q5⟩ := rblank_ev l hl 0 p hm hp
    have hq : q = l.length := by omega
    refine Ev.step (fun k => by rw [casketref11_All.l0]) ?_
    refine Ev.bind (a := (q : Int)) (by unfold casketref11_Blank.f; exact q3) ?_
    rw [hq]
    refine Ev.bind (rnext_end l) ?_
    have hacc := Aside0.mk (show acc.length < 2932031007402 by omega)
    refine Ev.yes rfl (Ev.yes hacc.out (Ev.bind0 rfl (Ev.yes rfl (Ev.ret ?_))))
    rw [hd, toks_nil, hpl]; rfl
  | succ m ih =>
    intro p acc hm hp ha
    obtain ⟨q, q1, q2, q3, q4, q5⟩ := rblank_ev l hl _ p (Nat.le_refl _) hp
    have hacc := Aside0.mk (show acc.length < 2932031007402 by omega)
    refine Ev.step (fun k => by rw [casketref11_All.l0]) ?_
    refine Ev.bind (a := (q : Int)) (by unfold casketref11_Blank.f; exact q3) ?_
    rw [q4]
    cases h : l.drop q with
    | nil =>
      have hq : q = l.length := by have := List.drop_eq_nil_iff.1 h; omega
      rw [hq]
      refine Ev.bind (rnext_end l) ?_
      refine Ev.yes rfl (Ev.yes hacc.out (Ev.bind0 rfl (Ev.yes rfl (Ev.ret ?_))))
      rw [toks_nil]; rfl
    | cons c r =>
      obtain ⟨h1, h2, h3⟩ := drop_cons h
      obtain ⟨hb, h35⟩ := q5 c r h
      refine Ev.bind (rnext_ev l hl q c r h) ?_
      by_cases ht : te (nextT (c :: r)) = 0
      · obtain ⟨n, n1, n2, n3⟩ := next_n c r ht
        have hlen : (c :: r).length = l.length - q := by rw [← h, List.length_drop]
        rw [refT_ok ht q n n1, toks_tok hb h35 r q n ht n1, col, if_pos rfl, ← h, List.drop_drop]
        refine Ev.yes rfl (Ev.yes hacc.out (Ev.bind0 rfl (Ev.no (by rw [h]; exact next_kind c r ht) ?_)))
        rw [h]
        exact ih (q + n) (acc ++ [tk (nextT (c :: r)) q]) (by omega) (by omega) (by simp; omega)
      · rw [refT_no ht, toks_bad hb h35 r q ht, col, if_neg ht]
        exact Ev.no ht (Ev.ret rfl)
theorem rall_ev (l : List UInt8) (hl : l.length ≤ 1000000) : Ev (fun k => casketref11_All.f k (bs l)) (allT l) := by
  unfold casketref11_All.f allT seqT
  rw [bs_size]
  by_cases h : 65536 < l.length
  · rw [if_pos h]
    exact Ev.yes (by omega) (Ev.ret rfl)
  · rw [if_neg h]
    exact Ev.no (by omega) (rall_l0 l hl _ 0 [] (Nat.le_refl _) (Nat.zero_le _) (Nat.le_refl _))
end Go.Proofs.YtjolkombhdibcaaDoor.Sp
end
section
namespace Go.Proofs.YtjolkombhdibcaaDoor.Given
open Go.RowKit Go.Shelf Go.Proofs.YtjolkombhdibcaaDoorW.PrintWords Go.Proofs.YtjolkombhdibcaaDoorW.PrintMore Go.Proofs.YtjolkombhdibcaaDoor.Print Go.Proofs.YtjolkombhdibcaaDoor.Sp
set_option linter.unusedVariables false
set_option linter.unusedSimpArgs false
attribute [local go_sem] Oper.semAt_some
theorem ref_step (S : ByteArray) (hS : S.size ≤ 1000000) (p : Nat) (hp : p ≤ S.size) : ∃ (q t2 : Nat) (y : E) (rest : List E),
    toks (S.data.toList.drop p) p = y :: rest ∧
    (∀ w : World, Calls Tryd.prog 15 #[.string S, .int .i64 p] w fun e w' => e = .returned (.int .i64 q) ∧ Drawn0 w w') ∧
    (∀ w : World, Calls Tryd.prog 16 #[.string S, .int .i64 q] w fun e w' => e = .returned (.tuple #[.agg #[.int .i64 y.1.f0, .int .i64 y.1.f1, .string y.1.f2, .int .i64 y.1.f3, .int .u64 y.1.f4], .int .i64 t2, .agg #[.int .i64 y.2.1, .int .i64 y.2.2]]) ∧ Below w.heap.size w w') ∧
    ((rest = [] ∧ (y.2.1 ≠ 0 ∨ (y.2.1 = 0 ∧ y.1.f0 = 7))) ∨ (y.2.1 = 0 ∧ y.1.f0 ≠ 7 ∧ t2 ≤ S.size ∧ rest = toks (S.data.toList.drop t2) t2)) := by
  have hl : S.data.toList.length = S.size := by simp
  obtain ⟨q, q1, q2, q3, q4, q5⟩ := rblank_ev S.data.toList (by omega) _ p (Nat.le_refl _) (by omega)
  obtain ⟨K, hK⟩ := q3
  have hB : ∀ w : World, Calls Tryd.prog 15 #[.string S, .int .i64 p] w fun e w' => e = .returned (.int .i64 q) ∧ Drawn0 w w' := fun w =>
    casketref11_Blank.calls K S p q w (by unfold casketref11_Blank.f; exact hK K (Nat.le_refl _))
  cases h : S.data.toList.drop q with
  | nil =>
    have hq : q = S.data.toList.length := by have := List.drop_eq_nil_iff.1 h; omega
    obtain ⟨K2, hK2⟩ := rnext_end S.data.toList
    refine ⟨q, q, endE q, [], by rw [q4, h, toks_nil], hB, fun w => ?_, .inl ⟨rfl, .inr ⟨rfl, rfl⟩⟩⟩
    have := hK2 K2 (Nat.le_refl _)
    rw [← hq] at this
    exact casketref11_Next.calls K2 S q _ _ _ _ _ _ _ _ w this
  | cons c r =>
    obtain ⟨hb, h35⟩ := q5 c r h
    obtain ⟨h1, h2, h3⟩ := drop_cons h
    obtain ⟨K2, hK2⟩ := rnext_ev S.data.toList (by omega) q c r h
    have hf := hK2 K2 (Nat.le_refl _)
    by_cases ht : te (nextT (c :: r)) = 0
    · obtain ⟨n, n1, n2, n3⟩ := next_n c r ht
      have hlen : (c :: r).length = S.data.toList.length - q := by rw [← h, List.length_drop]
      refine ⟨q, q + n, (tk (nextT (c :: r)) q, 0, 0), toks (S.data.toList.drop (q + n)) (q + n), by rw [q4, h, toks_tok hb h35 r q n ht n1, ← h, List.drop_drop], hB, fun w => ?_, .inr ⟨rfl, next_kind c r ht, by omega, rfl⟩⟩
      dsimp only at hf
      rw [refT_ok ht q n n1] at hf
      exact casketref11_Next.calls K2 S q _ _ _ _ _ _ _ _ w hf
    · refine ⟨q, q, (z30, te (nextT (c :: r)), (q : Int)), [], by rw [q4, h, toks_bad hb h35 r q ht], hB, fun w => ?_, .inl ⟨rfl, .inl ht⟩⟩
      dsimp only at hf
      rw [refT_no ht] at hf
      exact casketref11_Next.calls K2 S q _ _ _ _ _ _ _ _ w hf
def At (S : ByteArray) (L pre : List E) (p : Nat) (ended : Bool) : Prop := (ended = true ∧ pre = L) ∨ (ended = false ∧ p ≤ S.size ∧ L = pre ++ toks (S.data.toList.drop p) p)
theorem chain7 (w : World) (o1 o2 o3 o4 o5 o6 o7 : Obj) (W : World) (hW : W = ((((((w.alloc o1).alloc o2).alloc o3).alloc o4).alloc o5).alloc o6).alloc o7) :
    W.heap[w.heap.size]? = some o1 ∧ W.heap[w.heap.size + 1]? = some o2 ∧ W.heap[w.heap.size + 1 + 1]? = some o3 ∧ W.heap[w.heap.size + 1 + 1 + 1]? = some o4 ∧ W.heap[w.heap.size + 1 + 1 + 1 + 1]? = some o5 ∧
    W.heap[w.heap.size + 1 + 1 + 1 + 1 + 1]? = some o6 ∧ W.heap[w.heap.size + 1 + 1 + 1 + 1 + 1 + 1]? = some o7 ∧ W.heap.size = w.heap.size + 7 ∧ Below w.heap.size w W := by
  subst hW
  have e1 := blk_new w o1
  have e2 := blk_new (w.alloc o1) o2
  have e3 := blk_new ((w.alloc o1).alloc o2) o3
  have e4 := blk_new (((w.alloc o1).alloc o2).alloc o3) o4
  have e5 := blk_new ((((w.alloc o1).alloc o2).alloc o3).alloc o4) o5
  have e6 := blk_new (((((w.alloc o1).alloc o2).alloc o3).alloc o4).alloc o5) o6
  have e7 := blk_new ((((((w.alloc o1).alloc o2).alloc o3).alloc o4).alloc o5).alloc o6) o7
  simp only [World.size_alloc] at e2 e3 e4 e5 e6 e7
  refine ⟨blk_alloc (blk_alloc (blk_alloc (blk_alloc (blk_alloc (blk_alloc e1 _) _) _) _) _) _, blk_alloc (blk_alloc (blk_alloc (blk_alloc (blk_alloc e2 _) _) _) _) _, blk_alloc (blk_alloc (blk_alloc (blk_alloc e3 _) _) _) _, blk_alloc (blk_alloc (blk_alloc e4 _) _) _, blk_alloc (blk_alloc e5 _) _, blk_alloc e6 _, e7, by simp, ?_⟩
  exact below_alloc (below_alloc (below_alloc (below_alloc (below_alloc (below_alloc (below_alloc (Below.refl _ _) _) _) _) _) _) _) _
theorem boxKeep {X Y : World} {B : Nat} {t : TypeId} {v : Value} {row : Option Nat} (h : Boxed X B t v) (hg : X.grownBy Y row) (hr : ∀ r, row = some r → ∃ o : Obj, X.heap[r]? = some o ∧ o.isCells = false) : Boxed Y B t v :=
  boxed_own B t (fun (_ : Unit) => v) () X Y row h hg hr
theorem not_pre {L pre : List E} {x : E} (h : pre = L) : ¬ (pre ++ [x] <+: L) := fun e => by
  have h1 := List.IsPrefix.length_le e
  rw [h, List.length_append, List.length_singleton] at h1
  omega
def ResB (L : List E) (B : Nat) (pre : List E) (W : World) : Prop := ∃ r : Bool, Boxed W B 4 (.bool r) ∧ (r = false → ¬ (pre <+: L))
theorem not_pre2 {L pre rest : List E} {x y : E} (h : L = pre ++ y :: rest) (hxy : x ≠ y) : ¬ (pre ++ [x] <+: L) := fun e => by
  obtain ⟨t, ht⟩ := e
  rw [h, List.append_assoc] at ht
  have := List.append_cancel_left ht
  exact hxy (List.cons.inj this).1
theorem toList_inj {a b : ByteArray} (h : a.toList = b.toList) : a = b := by
  rw [ByteArray.toList_eq, ByteArray.toList_eq] at h
  apply ByteArray.ext
  exact Array.toList_inj.1 h
set_option maxRecDepth 100000 in
set_option maxHeartbeats 8000000 in
theorem goes_any (S : ByteArray) (stop : Int) (hS : S.size ≤ 60000) (w : World) (hG : Glob w) :
    Calls Tryd.prog 11 #[.string S, .int .i64 stop] w fun e W' => e = .returned (.bool true) ∧ Below w.heap.size w W' := by
  have hu30 := Tryd.underlying30
  have hu25 := Tryd.underlying25
  refine (callsIn_wide (n := 9)).1 ?_
  refine callsIn_of_wp_marks Tryd.func11 rfl trivial ?_ rfl
  simp only [Tryd.ntmps11, List.size_toArray, List.length_cons, List.length_nil, Nat.reduceAdd, Nat.reduceSub, Array.replicate_succ, Array.replicate_zero, List.push_toArray, List.append_toArray, List.nil_append, List.cons_append]
  gi_wp2_with (refine ⟨trivial, ?_⟩; gi_at_call 10; refine (callsIn_wide.2 (lex_Tokens.calls S _)).mono ?_; rintro e w' ⟨rfl, rfl⟩)
  obtain ⟨W0, hW0⟩ : ∃ W0, W0 = ((((((w.alloc (.cells #[.string S] 9)).alloc (.cells #[.int .i64 stop] 3)).alloc (.cells #[.bool false] 4)).alloc (.cells #[.int .i64 0] 3)).alloc (.cells #[.int .i64 0] 3)).alloc (.cells #[.bool false] 4)).alloc (.cells #[.string S] 9) := ⟨_, rfl⟩
  obtain ⟨b2, b3, b4, b5, b6, b7, b8, hsz, hB0⟩ := chain7 w _ _ _ _ _ _ _ W0 hW0
  rw [← hW0]
  clear hW0
  have h5 := hG.2.2.2.2
  have hG0 := hG.at_ hB0
  obtain ⟨L, hL⟩ : ∃ L, seqT S.data.toList = L := ⟨_, rfl⟩
  have hl : S.data.toList.length = S.size := by simp
  have hLt := Aside0.mk (show L = toks S.data.toList 0 by rw [← hL]; unfold seqT; rw [if_neg (by omega)])
  have hst := tokens_stops (9 - 1) (by omega) (w.heap.size + 1 + 1 + 1 + 1 + 1 + 1) w.heap.size S W0 (blk_cell b8 0) h5 hG0
  rw [hL] at hst
  have hLl : L.length ≤ S.size + 1 := by rw [← hL]; have := seq_le S.data.toList; omega
  clear hL
  refine wpIn_rangeFunc_ownH (α := E) rfl (by omega) (gf := 17) (lb := #[.pointer (some ⟨w.heap.size + 1 + 1 + 1 + 1 + 1 + 1, 0, none⟩)]) rfl trivial (enters_of Tryd.func17 (by kernel_rfl) rfl)
    hst KpT.trans (KpT.put (by omega) (by omega)) (Below.refl _ _) (fun _ => rfl)
    (fun (pre : List E) W => (∃ (p : Nat) (en : Bool), At S L pre p en ∧ Boxed W (w.heap.size + 1 + 1 + 1) 3 (.int .i64 p) ∧ Boxed W (w.heap.size + 1 + 1 + 1 + 1) 3 (.int .i64 pre.length) ∧ Boxed W (w.heap.size + 1 + 1 + 1 + 1 + 1) 4 (.bool en) ∧
      Boxed W w.heap.size 9 (.string S) ∧ Boxed W (w.heap.size + 1) 3 (.int .i64 stop) ∧ Boxed W (w.heap.size + 1 + 1) 4 (.bool false) ∧ Boxed W (w.heap.size + 1 + 1 + 1 + 1 + 1 + 1) 9 (.string S)) ∧ Below w.heap.size w W)
    (fun c (pre : List E) W => (c = .ret ∧ ResB L (w.heap.size + 1 + 1) pre W) ∧ Below w.heap.size w W)
    (OwnFrom.and (Own.from (fun s X Y row hs hg hr => by
      obtain ⟨p, en, ha, h5, h6, h7, h2, h3, h4, h8⟩ := hs
      exact ⟨p, en, ha, boxKeep h5 hg hr, boxKeep h6 hg hr, boxKeep h7 hg hr, boxKeep h2 hg hr, boxKeep h3 hg hr, boxKeep h4 hg hr, boxKeep h8 hg hr⟩) _) (ownFrom_below (Nat.le_refl _) (by omega)))
    (fun c => OwnFrom.and (Own.from (fun s X Y row hs hg hr => by
      obtain ⟨h1, r, h2, h3⟩ := hs
      exact ⟨h1, r, boxKeep h2 hg hr, h3⟩) _) (ownFrom_below (Nat.le_refl _) (by omega)))
    ⟨⟨0, false, .inr ⟨rfl, Nat.zero_le _, by rw [hLt.out]; simp⟩, b5, b6, b7, b2, b3, b4, b8⟩, hB0⟩
    (fun (x : E) a' W => ∃ Bt Bf, w.heap.size + 6 < Bt ∧ w.heap.size + 6 < Bf ∧ BoxN W Bt 30 (cellsT x.1).toArray ∧ BoxN W Bf 25 #[.int .i64 x.2.1, .int .i64 x.2.2] ∧ a' = { tmps := #[.string S, .int .i64 stop, .pointer (some ⟨w.heap.size, 0, none⟩), .pointer (some ⟨w.heap.size + 1, 0, none⟩), .pointer (some ⟨w.heap.size + 1 + 1, 0, none⟩), .pointer (some ⟨w.heap.size + 1 + 1 + 1, 0, none⟩), .pointer (some ⟨w.heap.size + 1 + 1 + 1 + 1, 0, none⟩), .pointer (some ⟨w.heap.size + 1 + 1 + 1 + 1 + 1, 0, none⟩), .pointer (some ⟨Bt, 0, none⟩), .pointer (some ⟨Bf, 0, none⟩), undef, undef, undef, .string S, .func (.func 17) #[] #[.pointer (some ⟨w.heap.size + 1 + 1 + 1 + 1 + 1 + 1, 0, none⟩)], .agg #[.int .i64 x.1.f0, .int .i64 x.1.f1, .string x.1.f2, .int .i64 x.1.f3, .int .u64 x.1.f4], .agg #[.int .i64 x.2.1, .int .i64 x.2.2], undef, undef, undef, undef, undef, undef, undef, undef, undef, undef, undef, undef, undef, undef, undef, undef, undef, undef, undef, undef, undef, undef, undef, undef, undef, undef, undef, undef, undef, undef, undef, undef, undef, undef, undef, undef, undef, undef, undef], defers := [] })
    (fun x a' _ X Y row hs hg hr => by
      obtain ⟨Bt, Bf, h0, h00, h1, h2, h3⟩ := hs
      exact ⟨Bt, Bf, h0, h00, boxN_own _ _ (fun (_ : Unit) => _) () X Y row h1 hg (fun r e => (hr r e).2), boxN_own _ _ (fun (_ : Unit) => _) () X Y row h2 hg (fun r e => (hr r e).2), h3⟩)
    ?assign ?body ?done ?stop
  case assign =>
    rintro l pre x W K ⟨⟨p, en, hA, c5, c6, c7, c2, c3, c4, c8⟩, hB⟩ hK
    gi_wp2
    have hBz := hB.size
    have hb1 : Below w.heap.size W ((W.alloc (.cells (cellsT x.1).toArray 30)).alloc (.cells #[.int .i64 x.2.1, .int .i64 x.2.2] 25)) := ((Below.refl _ W).alloc hBz _).alloc (by simp; omega) _
    have hn := blk_new (W.alloc (.cells (cellsT x.1).toArray 30)) (.cells #[.int .i64 x.2.1, .int .i64 x.2.2] 25)
    rw [World.size_alloc] at hn
    have hlt8 := c8.lt
    exact hK _ _ (((KeepsOthers.alloc W _).trans (KeepsOthers.alloc _ _)).from _) ⟨hb1, ((c8.alloc _).alloc _).cell.trans c8.cell.symm⟩
      ⟨⟨p, en, hA, (c5.alloc _).alloc _, (c6.alloc _).alloc _, (c7.alloc _).alloc _, (c2.alloc _).alloc _, (c3.alloc _).alloc _, (c4.alloc _).alloc _, (c8.alloc _).alloc _⟩, hB.trans hb1⟩
      ⟨W.heap.size, W.heap.size + 1, by omega, by omega, blk_alloc (blk_new W _) _, hn, rfl⟩
  case body =>
    rintro l pre ⟨⟨f0, f1, f2, f3, f4⟩, cd, ad⟩ a' W hl ⟨r, hr⟩ ⟨⟨p, en, hA, c5, c6, c7, c2, c3, c4, c8⟩, hB⟩ ⟨Bt, Bf, hBt, hBf, bT, bF, rfl⟩ hlt
    have hBz := hB.size
    have x2 := c2.cell
    have x3 := c3.cell
    have x5 := c5.cell
    have x6 := c6.cell
    have x7 := c7.cell
    have y4 := c4.frozen
    have z4 := c4.cell
    dsimp only
    rcases hA with ⟨rfl, hpre0⟩ | ⟨rfl, hpS, hLp0⟩
    · have hpre := Aside0.mk hpre0
      clear hpre0
      gi_wp2
      exact ⟨(KeepsOthers.setCell W ⟨w.heap.size + 1 + 1, 0, none⟩ (.bool false)).from _, ⟨rfl, false, c4.set _, fun _ => not_pre hpre.out⟩, hB.setCell (p := ⟨w.heap.size + 1 + 1, 0, none⟩) (by show w.heap.size ≤ w.heap.size + 1 + 1; omega) _⟩
    · obtain ⟨q, t2, y, rest, hy, hBl, hNx, hfin⟩ := ref_step S (by omega) p hpS
      have hLp := Aside0.mk (hLp0.trans (by rw [hy]))
      clear hLp0
      have HBL := Aside0.mk hBl
      have HNX := Aside0.mk hNx
      clear hBl hNx
      have hsz : decide (65536 < S.size) = false := decide_eq_false (by omega)
      gi_wp2_with (refine ⟨trivial, ?_⟩; gi_at_call 15; refine (CallsIn.inRound l (callsIn_wide.2 (HBL.out _))).mono ?_; rintro e w1 ⟨rfl, hdr⟩; have k5 := Boxed.cell (blk_below c5 hdr.below); have k5f := Boxed.frozen (blk_below c5 hdr.below); have k2 := Boxed.cell (blk_below c2 hdr.below))
      obtain ⟨w2, hw2⟩ : ∃ w2, w1.setCell ⟨w.heap.size + 1 + 1 + 1, 0, none⟩ (.int .i64 q) = w2 := ⟨_, rfl⟩
      have m2 : Boxed w2 w.heap.size 9 (.string S) := by rw [← hw2]; exact blk_far (blk_below c2 hdr.below) (by show w.heap.size ≠ w.heap.size + 1 + 1 + 1; omega) _
      have m3 : Boxed w2 (w.heap.size + 1) 3 (.int .i64 stop) := by rw [← hw2]; exact blk_far (blk_below c3 hdr.below) (by show w.heap.size + 1 ≠ w.heap.size + 1 + 1 + 1; omega) _
      have m4 : Boxed w2 (w.heap.size + 1 + 1) 4 (.bool false) := by rw [← hw2]; exact blk_far (blk_below c4 hdr.below) (by show w.heap.size + 1 + 1 ≠ w.heap.size + 1 + 1 + 1; omega) _
      have m5 : Boxed w2 (w.heap.size + 1 + 1 + 1) 3 (.int .i64 q) := by rw [← hw2]; exact Boxed.set _ (blk_below c5 hdr.below)
      have m6 : Boxed w2 (w.heap.size + 1 + 1 + 1 + 1) 3 (.int .i64 pre.length) := by rw [← hw2]; exact blk_far (blk_below c6 hdr.below) (by show w.heap.size + 1 + 1 + 1 + 1 ≠ w.heap.size + 1 + 1 + 1; omega) _
      have m7 : Boxed w2 (w.heap.size + 1 + 1 + 1 + 1 + 1) 4 (.bool false) := by rw [← hw2]; exact blk_far (blk_below c7 hdr.below) (by show w.heap.size + 1 + 1 + 1 + 1 + 1 ≠ w.heap.size + 1 + 1 + 1; omega) _
      have m8 : Boxed w2 (w.heap.size + 1 + 1 + 1 + 1 + 1 + 1) 9 (.string S) := by rw [← hw2]; exact blk_far (blk_below c8 hdr.below) (by show w.heap.size + 1 + 1 + 1 + 1 + 1 + 1 ≠ w.heap.size + 1 + 1 + 1; omega) _
      have mT : BoxN w2 Bt 30 (cellsT ⟨f0, f1, f2, f3, f4⟩).toArray := by rw [← hw2]; exact blk_far (blk_below bT hdr.below) (by show Bt ≠ w.heap.size + 1 + 1 + 1; omega) _
      have mF : BoxN w2 Bf 25 #[.int .i64 cd, .int .i64 ad] := by rw [← hw2]; exact blk_far (blk_below bF hdr.below) (by show Bf ≠ w.heap.size + 1 + 1 + 1; omega) _
      have mB : Below w.heap.size W w2 := by rw [← hw2]; exact (hdr.below.mono hBz).setCell (p := ⟨w.heap.size + 1 + 1 + 1, 0, none⟩) (by show w.heap.size ≤ w.heap.size + 1 + 1 + 1; omega) _
      have mK : KeepsFrom W0.heap.size W w2 := by rw [← hw2]; exact (KeepsFrom.of_grownBy (grown_of_below hdr.below none) (by simp)).trans ((KeepsOthers.setCell _ _ _).from _)
      rw [hw2]
      clear hw2 k5 k5f k2 hdr
      by_cases hxy : (((⟨f0, f1, f2, f3, f4⟩ : S30), cd, ad) : E) = y
      · subst hxy
        have HFIN := Aside0.mk hfin
        clear hfin hy
        dsimp only at HFIN hLp
        have hpl : pre.length ≤ 60001 := by omega
        by_cases hcd : cd = 0
        · by_cases h7 : f0 = 7
          · subst hcd
            subst h7
            have hat : At S L (pre ++ [(((⟨7, f1, f2, f3, f4⟩ : S30), (0 : Int), ad) : E)]) t2 true := .inl ⟨rfl, by
              rcases HFIN.out with ⟨h, _⟩ | ⟨_, h, _⟩
              · rw [hLp.out, h]
              · exact absurd rfl h⟩
            have HAT := Aside0.mk hat
            clear hat
            gi_wp2_with (refine ⟨trivial, ?_⟩; gi_at_call 16; refine (CallsIn.inRound l (callsIn_wide.2 (HNX.out _))).mono ?_; rintro e w3 ⟨rfl, hb⟩; have HBb := Aside0.mk hb; have Q2 := Aside0.mk (blk_alloc (blk_alloc (blk_below m2 hb) (.cells #[.int .i64 7, .int .i64 f1, .string f2, .int .i64 f3, .int .u64 f4] 30)) (.cells #[.int .i64 0, .int .i64 ad] 25)); have Q3 := Aside0.mk (blk_alloc (blk_alloc (blk_below m3 hb) (.cells #[.int .i64 7, .int .i64 f1, .string f2, .int .i64 f3, .int .u64 f4] 30)) (.cells #[.int .i64 0, .int .i64 ad] 25)); have Q4 := Aside0.mk (blk_alloc (blk_alloc (blk_below m4 hb) (.cells #[.int .i64 7, .int .i64 f1, .string f2, .int .i64 f3, .int .u64 f4] 30)) (.cells #[.int .i64 0, .int .i64 ad] 25)); have Q5 := Aside0.mk (blk_alloc (blk_alloc (blk_below m5 hb) (.cells #[.int .i64 7, .int .i64 f1, .string f2, .int .i64 f3, .int .u64 f4] 30)) (.cells #[.int .i64 0, .int .i64 ad] 25)); have Q6 := Aside0.mk (blk_alloc (blk_alloc (blk_below m6 hb) (.cells #[.int .i64 7, .int .i64 f1, .string f2, .int .i64 f3, .int .u64 f4] 30)) (.cells #[.int .i64 0, .int .i64 ad] 25)); have Q7 := Aside0.mk (blk_alloc (blk_alloc (blk_below m7 hb) (.cells #[.int .i64 7, .int .i64 f1, .string f2, .int .i64 f3, .int .u64 f4] 30)) (.cells #[.int .i64 0, .int .i64 ad] 25)); have Q8 := Aside0.mk (blk_alloc (blk_alloc (blk_below m8 hb) (.cells #[.int .i64 7, .int .i64 f1, .string f2, .int .i64 f3, .int .u64 f4] 30)) (.cells #[.int .i64 0, .int .i64 ad] 25)); have QB := Aside0.mk (below_alloc (below_alloc ((hB.trans mB).trans (hb.mono (Nat.le_trans hBz mB.size))) (.cells #[.int .i64 7, .int .i64 f1, .string f2, .int .i64 f3, .int .u64 f4] 30)) (.cells #[.int .i64 0, .int .i64 ad] 25)); have QW := Aside0.mk (((mB.trans (hb.mono (Nat.le_trans hBz mB.size))).alloc (Nat.le_trans (Nat.le_trans hBz mB.size) hb.size) (.cells #[.int .i64 7, .int .i64 f1, .string f2, .int .i64 f3, .int .u64 f4] 30)).alloc (Nat.le_trans (Nat.le_trans (Nat.le_trans hBz mB.size) hb.size) (below_alloc (Below.refl _ w3) _).size) (.cells #[.int .i64 0, .int .i64 ad] 25)); have QK := Aside0.mk ((mK.trans (KeepsFrom.of_grownBy (grown_of_below hb none) (by simp))).trans (((KeepsOthers.alloc w3 (.cells #[.int .i64 7, .int .i64 f1, .string f2, .int .i64 f3, .int .u64 f4] 30)).trans (KeepsOthers.alloc _ (.cells #[.int .i64 0, .int .i64 ad] 25))).from _)); have v2 := Boxed.cell (blk_alloc (blk_alloc (blk_below m2 hb) (.cells #[.int .i64 7, .int .i64 f1, .string f2, .int .i64 f3, .int .u64 f4] 30)) (.cells #[.int .i64 0, .int .i64 ad] 25)); have v3 := Boxed.cell (blk_alloc (blk_alloc (blk_below m3 hb) (.cells #[.int .i64 7, .int .i64 f1, .string f2, .int .i64 f3, .int .u64 f4] 30)) (.cells #[.int .i64 0, .int .i64 ad] 25)); have v4 := Boxed.cell (blk_alloc (blk_alloc (blk_below m4 hb) (.cells #[.int .i64 7, .int .i64 f1, .string f2, .int .i64 f3, .int .u64 f4] 30)) (.cells #[.int .i64 0, .int .i64 ad] 25)); have v5 := Boxed.cell (blk_alloc (blk_alloc (blk_below m5 hb) (.cells #[.int .i64 7, .int .i64 f1, .string f2, .int .i64 f3, .int .u64 f4] 30)) (.cells #[.int .i64 0, .int .i64 ad] 25)); have v6 := Boxed.cell (blk_alloc (blk_alloc (blk_below m6 hb) (.cells #[.int .i64 7, .int .i64 f1, .string f2, .int .i64 f3, .int .u64 f4] 30)) (.cells #[.int .i64 0, .int .i64 ad] 25)); have v7 := Boxed.cell (blk_alloc (blk_alloc (blk_below m7 hb) (.cells #[.int .i64 7, .int .i64 f1, .string f2, .int .i64 f3, .int .u64 f4] 30)) (.cells #[.int .i64 0, .int .i64 ad] 25)); have v4f := Boxed.frozen (blk_alloc (blk_alloc (blk_below m4 hb) (.cells #[.int .i64 7, .int .i64 f1, .string f2, .int .i64 f3, .int .u64 f4] 30)) (.cells #[.int .i64 0, .int .i64 ad] 25)); have v5f := Boxed.frozen (blk_alloc (blk_alloc (blk_below m5 hb) (.cells #[.int .i64 7, .int .i64 f1, .string f2, .int .i64 f3, .int .u64 f4] 30)) (.cells #[.int .i64 0, .int .i64 ad] 25)); have v6f := Boxed.frozen (blk_alloc (blk_alloc (blk_below m6 hb) (.cells #[.int .i64 7, .int .i64 f1, .string f2, .int .i64 f3, .int .u64 f4] 30)) (.cells #[.int .i64 0, .int .i64 ad] 25)); have v7f := Boxed.frozen (blk_alloc (blk_alloc (blk_below m7 hb) (.cells #[.int .i64 7, .int .i64 f1, .string f2, .int .i64 f3, .int .u64 f4] 30)) (.cells #[.int .i64 0, .int .i64 ad] 25)); have t0c : ((w3.alloc (.cells #[.int .i64 7, .int .i64 f1, .string f2, .int .i64 f3, .int .u64 f4] 30)).alloc (.cells #[.int .i64 0, .int .i64 ad] 25)).cell? ⟨Bt, 0, none⟩ = some (.int .i64 7) := blk_cell (blk_alloc (blk_alloc (blk_below mT hb) (.cells #[.int .i64 7, .int .i64 f1, .string f2, .int .i64 f3, .int .u64 f4] 30)) (.cells #[.int .i64 0, .int .i64 ad] 25)) 0; have t1c : ((w3.alloc (.cells #[.int .i64 7, .int .i64 f1, .string f2, .int .i64 f3, .int .u64 f4] 30)).alloc (.cells #[.int .i64 0, .int .i64 ad] 25)).cell? ⟨Bt, 1, none⟩ = some (.int .i64 f1) := blk_cell (blk_alloc (blk_alloc (blk_below mT hb) (.cells #[.int .i64 7, .int .i64 f1, .string f2, .int .i64 f3, .int .u64 f4] 30)) (.cells #[.int .i64 0, .int .i64 ad] 25)) 1; have t2c : ((w3.alloc (.cells #[.int .i64 7, .int .i64 f1, .string f2, .int .i64 f3, .int .u64 f4] 30)).alloc (.cells #[.int .i64 0, .int .i64 ad] 25)).cell? ⟨Bt, 2, none⟩ = some (.string f2) := blk_cell (blk_alloc (blk_alloc (blk_below mT hb) (.cells #[.int .i64 7, .int .i64 f1, .string f2, .int .i64 f3, .int .u64 f4] 30)) (.cells #[.int .i64 0, .int .i64 ad] 25)) 2; have t3c : ((w3.alloc (.cells #[.int .i64 7, .int .i64 f1, .string f2, .int .i64 f3, .int .u64 f4] 30)).alloc (.cells #[.int .i64 0, .int .i64 ad] 25)).cell? ⟨Bt, 3, none⟩ = some (.int .i64 f3) := blk_cell (blk_alloc (blk_alloc (blk_below mT hb) (.cells #[.int .i64 7, .int .i64 f1, .string f2, .int .i64 f3, .int .u64 f4] 30)) (.cells #[.int .i64 0, .int .i64 ad] 25)) 3; have t4c : ((w3.alloc (.cells #[.int .i64 7, .int .i64 f1, .string f2, .int .i64 f3, .int .u64 f4] 30)).alloc (.cells #[.int .i64 0, .int .i64 ad] 25)).cell? ⟨Bt, 4, none⟩ = some (.int .u64 f4) := blk_cell (blk_alloc (blk_alloc (blk_below mT hb) (.cells #[.int .i64 7, .int .i64 f1, .string f2, .int .i64 f3, .int .u64 f4] 30)) (.cells #[.int .i64 0, .int .i64 ad] 25)) 4; have u0c : ((w3.alloc (.cells #[.int .i64 7, .int .i64 f1, .string f2, .int .i64 f3, .int .u64 f4] 30)).alloc (.cells #[.int .i64 0, .int .i64 ad] 25)).cell? ⟨Bf, 0, none⟩ = some (.int .i64 0) := blk_cell (blk_alloc (blk_alloc (blk_below mF hb) (.cells #[.int .i64 7, .int .i64 f1, .string f2, .int .i64 f3, .int .u64 f4] 30)) (.cells #[.int .i64 0, .int .i64 ad] 25)) 0; have u1c : ((w3.alloc (.cells #[.int .i64 7, .int .i64 f1, .string f2, .int .i64 f3, .int .u64 f4] 30)).alloc (.cells #[.int .i64 0, .int .i64 ad] 25)).cell? ⟨Bf, 1, none⟩ = some (.int .i64 ad) := blk_cell (blk_alloc (blk_alloc (blk_below mF hb) (.cells #[.int .i64 7, .int .i64 f1, .string f2, .int .i64 f3, .int .u64 f4] 30)) (.cells #[.int .i64 0, .int .i64 ad] 25)) 1)
            all_goals
              have D2 := (Boxed.other (Boxed.other (Boxed.other (show Boxed _ (w.heap.size) _ _ from Q2.out) (by show w.heap.size ≠ w.heap.size + 1 + 1 + 1 + 1 + 1; omega) (.bool true)) (by show w.heap.size ≠ w.heap.size + 1 + 1 + 1; omega) (.int .i64 t2)) (by show w.heap.size ≠ w.heap.size + 1 + 1 + 1 + 1; omega) (.int .i64 (pre.length + 1)))
              have D3 := (Boxed.other (Boxed.other (Boxed.other (show Boxed _ (w.heap.size + 1) _ _ from Q3.out) (by show w.heap.size + 1 ≠ w.heap.size + 1 + 1 + 1 + 1 + 1; omega) (.bool true)) (by show w.heap.size + 1 ≠ w.heap.size + 1 + 1 + 1; omega) (.int .i64 t2)) (by show w.heap.size + 1 ≠ w.heap.size + 1 + 1 + 1 + 1; omega) (.int .i64 (pre.length + 1)))
              have D4 := (Boxed.other (Boxed.other (Boxed.other (show Boxed _ (w.heap.size + 1 + 1) _ _ from Q4.out) (by show w.heap.size + 1 + 1 ≠ w.heap.size + 1 + 1 + 1 + 1 + 1; omega) (.bool true)) (by show w.heap.size + 1 + 1 ≠ w.heap.size + 1 + 1 + 1; omega) (.int .i64 t2)) (by show w.heap.size + 1 + 1 ≠ w.heap.size + 1 + 1 + 1 + 1; omega) (.int .i64 (pre.length + 1)))
              have D5 := (Boxed.other (Boxed.set (.int .i64 t2) (Boxed.other (show Boxed _ (w.heap.size + 1 + 1 + 1) _ _ from Q5.out) (by show w.heap.size + 1 + 1 + 1 ≠ w.heap.size + 1 + 1 + 1 + 1 + 1; omega) (.bool true))) (by show w.heap.size + 1 + 1 + 1 ≠ w.heap.size + 1 + 1 + 1 + 1; omega) (.int .i64 (pre.length + 1)))
              have D6 := (Boxed.set (.int .i64 (pre.length + 1)) (Boxed.other (Boxed.other (show Boxed _ (w.heap.size + 1 + 1 + 1 + 1) _ _ from Q6.out) (by show w.heap.size + 1 + 1 + 1 + 1 ≠ w.heap.size + 1 + 1 + 1 + 1 + 1; omega) (.bool true)) (by show w.heap.size + 1 + 1 + 1 + 1 ≠ w.heap.size + 1 + 1 + 1; omega) (.int .i64 t2)))
              have D7 := (Boxed.other (Boxed.other (Boxed.set (.bool true) (show Boxed _ (w.heap.size + 1 + 1 + 1 + 1 + 1) _ _ from Q7.out)) (by show w.heap.size + 1 + 1 + 1 + 1 + 1 ≠ w.heap.size + 1 + 1 + 1; omega) (.int .i64 t2)) (by show w.heap.size + 1 + 1 + 1 + 1 + 1 ≠ w.heap.size + 1 + 1 + 1 + 1; omega) (.int .i64 (pre.length + 1)))
              have D8 := (Boxed.other (Boxed.other (Boxed.other (show Boxed _ (w.heap.size + 1 + 1 + 1 + 1 + 1 + 1) _ _ from Q8.out) (by show w.heap.size + 1 + 1 + 1 + 1 + 1 + 1 ≠ w.heap.size + 1 + 1 + 1 + 1 + 1; omega) (.bool true)) (by show w.heap.size + 1 + 1 + 1 + 1 + 1 + 1 ≠ w.heap.size + 1 + 1 + 1; omega) (.int .i64 t2)) (by show w.heap.size + 1 + 1 + 1 + 1 + 1 + 1 ≠ w.heap.size + 1 + 1 + 1 + 1; omega) (.int .i64 (pre.length + 1)))
              have DK := (((QK.out.trans ((KeepsOthers.setCell _ ⟨w.heap.size + 1 + 1 + 1 + 1 + 1, 0, none⟩ (.bool true)).from _)).trans ((KeepsOthers.setCell _ ⟨w.heap.size + 1 + 1 + 1, 0, none⟩ (.int .i64 t2)).from _)).trans ((KeepsOthers.setCell _ ⟨w.heap.size + 1 + 1 + 1 + 1, 0, none⟩ (.int .i64 (pre.length + 1))).from _))
              have DW := (((QW.out.setCell (p := ⟨w.heap.size + 1 + 1 + 1 + 1 + 1, 0, none⟩) (by show w.heap.size ≤ w.heap.size + 1 + 1 + 1 + 1 + 1; omega) (.bool true)).setCell (p := ⟨w.heap.size + 1 + 1 + 1, 0, none⟩) (by show w.heap.size ≤ w.heap.size + 1 + 1 + 1; omega) (.int .i64 t2)).setCell (p := ⟨w.heap.size + 1 + 1 + 1 + 1, 0, none⟩) (by show w.heap.size ≤ w.heap.size + 1 + 1 + 1 + 1; omega) (.int .i64 (pre.length + 1)))
              have DB := (((QB.out.setCell (p := ⟨w.heap.size + 1 + 1 + 1 + 1 + 1, 0, none⟩) (by show w.heap.size ≤ w.heap.size + 1 + 1 + 1 + 1 + 1; omega) (.bool true)).setCell (p := ⟨w.heap.size + 1 + 1 + 1, 0, none⟩) (by show w.heap.size ≤ w.heap.size + 1 + 1 + 1; omega) (.int .i64 t2)).setCell (p := ⟨w.heap.size + 1 + 1 + 1 + 1, 0, none⟩) (by show w.heap.size ≤ w.heap.size + 1 + 1 + 1 + 1; omega) (.int .i64 (pre.length + 1)))
              have hlen : (((pre ++ [(((⟨7, f1, f2, f3, f4⟩ : S30), (0 : Int), ad) : E)]).length : Nat) : Int) = (pre.length : Int) + 1 := by simp
              first
                | exact ⟨DK, ⟨DW, D8.cell.trans c8.cell.symm⟩, ⟨t2, true, HAT.out, D5, by rw [hlen]; exact D6, D7, D2, D3, D4, D8⟩, DB⟩
                | exact ⟨DK.trans ((KeepsOthers.setCell _ _ _).from _), ⟨rfl, true, Boxed.set _ D4, fun h => by cases h⟩, DB.setCell (p := ⟨w.heap.size + 1 + 1, 0, none⟩) (by show w.heap.size ≤ w.heap.size + 1 + 1; omega) _⟩
          · subst hcd
            have g7 : (f0 == 7) = false := beq_eq_false_iff_ne.2 h7
            have hat : At S L (pre ++ [(((⟨f0, f1, f2, f3, f4⟩ : S30), (0 : Int), ad) : E)]) t2 false := .inr (by
              rcases HFIN.out with ⟨_, h | ⟨_, h⟩⟩ | ⟨_, _, h, h'⟩
              · exact absurd rfl h
              · exact absurd h h7
              · exact ⟨rfl, h, by rw [hLp.out, h']; simp⟩)
            have HAT := Aside0.mk hat
            clear hat h7
            gi_wp2_with (refine ⟨trivial, ?_⟩; gi_at_call 16; refine (CallsIn.inRound l (callsIn_wide.2 (HNX.out _))).mono ?_; rintro e w3 ⟨rfl, hb⟩; have HBb := Aside0.mk hb; have Q2 := Aside0.mk (blk_alloc (blk_alloc (blk_below m2 hb) (.cells #[.int .i64 f0, .int .i64 f1, .string f2, .int .i64 f3, .int .u64 f4] 30)) (.cells #[.int .i64 0, .int .i64 ad] 25)); have Q3 := Aside0.mk (blk_alloc (blk_alloc (blk_below m3 hb) (.cells #[.int .i64 f0, .int .i64 f1, .string f2, .int .i64 f3, .int .u64 f4] 30)) (.cells #[.int .i64 0, .int .i64 ad] 25)); have Q4 := Aside0.mk (blk_alloc (blk_alloc (blk_below m4 hb) (.cells #[.int .i64 f0, .int .i64 f1, .string f2, .int .i64 f3, .int .u64 f4] 30)) (.cells #[.int .i64 0, .int .i64 ad] 25)); have Q5 := Aside0.mk (blk_alloc (blk_alloc (blk_below m5 hb) (.cells #[.int .i64 f0, .int .i64 f1, .string f2, .int .i64 f3, .int .u64 f4] 30)) (.cells #[.int .i64 0, .int .i64 ad] 25)); have Q6 := Aside0.mk (blk_alloc (blk_alloc (blk_below m6 hb) (.cells #[.int .i64 f0, .int .i64 f1, .string f2, .int .i64 f3, .int .u64 f4] 30)) (.cells #[.int .i64 0, .int .i64 ad] 25)); have Q7 := Aside0.mk (blk_alloc (blk_alloc (blk_below m7 hb) (.cells #[.int .i64 f0, .int .i64 f1, .string f2, .int .i64 f3, .int .u64 f4] 30)) (.cells #[.int .i64 0, .int .i64 ad] 25)); have Q8 := Aside0.mk (blk_alloc (blk_alloc (blk_below m8 hb) (.cells #[.int .i64 f0, .int .i64 f1, .string f2, .int .i64 f3, .int .u64 f4] 30)) (.cells #[.int .i64 0, .int .i64 ad] 25)); have QB := Aside0.mk (below_alloc (below_alloc ((hB.trans mB).trans (hb.mono (Nat.le_trans hBz mB.size))) (.cells #[.int .i64 f0, .int .i64 f1, .string f2, .int .i64 f3, .int .u64 f4] 30)) (.cells #[.int .i64 0, .int .i64 ad] 25)); have QW := Aside0.mk (((mB.trans (hb.mono (Nat.le_trans hBz mB.size))).alloc (Nat.le_trans (Nat.le_trans hBz mB.size) hb.size) (.cells #[.int .i64 f0, .int .i64 f1, .string f2, .int .i64 f3, .int .u64 f4] 30)).alloc (Nat.le_trans (Nat.le_trans (Nat.le_trans hBz mB.size) hb.size) (below_alloc (Below.refl _ w3) _).size) (.cells #[.int .i64 0, .int .i64 ad] 25)); have QK := Aside0.mk ((mK.trans (KeepsFrom.of_grownBy (grown_of_below hb none) (by simp))).trans (((KeepsOthers.alloc w3 (.cells #[.int .i64 f0, .int .i64 f1, .string f2, .int .i64 f3, .int .u64 f4] 30)).trans (KeepsOthers.alloc _ (.cells #[.int .i64 0, .int .i64 ad] 25))).from _)); have v2 := Boxed.cell (blk_alloc (blk_alloc (blk_below m2 hb) (.cells #[.int .i64 f0, .int .i64 f1, .string f2, .int .i64 f3, .int .u64 f4] 30)) (.cells #[.int .i64 0, .int .i64 ad] 25)); have v3 := Boxed.cell (blk_alloc (blk_alloc (blk_below m3 hb) (.cells #[.int .i64 f0, .int .i64 f1, .string f2, .int .i64 f3, .int .u64 f4] 30)) (.cells #[.int .i64 0, .int .i64 ad] 25)); have v4 := Boxed.cell (blk_alloc (blk_alloc (blk_below m4 hb) (.cells #[.int .i64 f0, .int .i64 f1, .string f2, .int .i64 f3, .int .u64 f4] 30)) (.cells #[.int .i64 0, .int .i64 ad] 25)); have v5 := Boxed.cell (blk_alloc (blk_alloc (blk_below m5 hb) (.cells #[.int .i64 f0, .int .i64 f1, .string f2, .int .i64 f3, .int .u64 f4] 30)) (.cells #[.int .i64 0, .int .i64 ad] 25)); have v6 := Boxed.cell (blk_alloc (blk_alloc (blk_below m6 hb) (.cells #[.int .i64 f0, .int .i64 f1, .string f2, .int .i64 f3, .int .u64 f4] 30)) (.cells #[.int .i64 0, .int .i64 ad] 25)); have v7 := Boxed.cell (blk_alloc (blk_alloc (blk_below m7 hb) (.cells #[.int .i64 f0, .int .i64 f1, .string f2, .int .i64 f3, .int .u64 f4] 30)) (.cells #[.int .i64 0, .int .i64 ad] 25)); have v4f := Boxed.frozen (blk_alloc (blk_alloc (blk_below m4 hb) (.cells #[.int .i64 f0, .int .i64 f1, .string f2, .int .i64 f3, .int .u64 f4] 30)) (.cells #[.int .i64 0, .int .i64 ad] 25)); have v5f := Boxed.frozen (blk_alloc (blk_alloc (blk_below m5 hb) (.cells #[.int .i64 f0, .int .i64 f1, .string f2, .int .i64 f3, .int .u64 f4] 30)) (.cells #[.int .i64 0, .int .i64 ad] 25)); have v6f := Boxed.frozen (blk_alloc (blk_alloc (blk_below m6 hb) (.cells #[.int .i64 f0, .int .i64 f1, .string f2, .int .i64 f3, .int .u64 f4] 30)) (.cells #[.int .i64 0, .int .i64 ad] 25)); have v7f := Boxed.frozen (blk_alloc (blk_alloc (blk_below m7 hb) (.cells #[.int .i64 f0, .int .i64 f1, .string f2, .int .i64 f3, .int .u64 f4] 30)) (.cells #[.int .i64 0, .int .i64 ad] 25)); have t0c : ((w3.alloc (.cells #[.int .i64 f0, .int .i64 f1, .string f2, .int .i64 f3, .int .u64 f4] 30)).alloc (.cells #[.int .i64 0, .int .i64 ad] 25)).cell? ⟨Bt, 0, none⟩ = some (.int .i64 f0) := blk_cell (blk_alloc (blk_alloc (blk_below mT hb) (.cells #[.int .i64 f0, .int .i64 f1, .string f2, .int .i64 f3, .int .u64 f4] 30)) (.cells #[.int .i64 0, .int .i64 ad] 25)) 0; have t1c : ((w3.alloc (.cells #[.int .i64 f0, .int .i64 f1, .string f2, .int .i64 f3, .int .u64 f4] 30)).alloc (.cells #[.int .i64 0, .int .i64 ad] 25)).cell? ⟨Bt, 1, none⟩ = some (.int .i64 f1) := blk_cell (blk_alloc (blk_alloc (blk_below mT hb) (.cells #[.int .i64 f0, .int .i64 f1, .string f2, .int .i64 f3, .int .u64 f4] 30)) (.cells #[.int .i64 0, .int .i64 ad] 25)) 1; have t2c : ((w3.alloc (.cells #[.int .i64 f0, .int .i64 f1, .string f2, .int .i64 f3, .int .u64 f4] 30)).alloc (.cells #[.int .i64 0, .int .i64 ad] 25)).cell? ⟨Bt, 2, none⟩ = some (.string f2) := blk_cell (blk_alloc (blk_alloc (blk_below mT hb) (.cells #[.int .i64 f0, .int .i64 f1, .string f2, .int .i64 f3, .int .u64 f4] 30)) (.cells #[.int .i64 0, .int .i64 ad] 25)) 2; have t3c : ((w3.alloc (.cells #[.int .i64 f0, .int .i64 f1, .string f2, .int .i64 f3, .int .u64 f4] 30)).alloc (.cells #[.int .i64 0, .int .i64 ad] 25)).cell? ⟨Bt, 3, none⟩ = some (.int .i64 f3) := blk_cell (blk_alloc (blk_alloc (blk_below mT hb) (.cells #[.int .i64 f0, .int .i64 f1, .string f2, .int .i64 f3, .int .u64 f4] 30)) (.cells #[.int .i64 0, .int .i64 ad] 25)) 3; have t4c : ((w3.alloc (.cells #[.int .i64 f0, .int .i64 f1, .string f2, .int .i64 f3, .int .u64 f4] 30)).alloc (.cells #[.int .i64 0, .int .i64 ad] 25)).cell? ⟨Bt, 4, none⟩ = some (.int .u64 f4) := blk_cell (blk_alloc (blk_alloc (blk_below mT hb) (.cells #[.int .i64 f0, .int .i64 f1, .string f2, .int .i64 f3, .int .u64 f4] 30)) (.cells #[.int .i64 0, .int .i64 ad] 25)) 4; have u0c : ((w3.alloc (.cells #[.int .i64 f0, .int .i64 f1, .string f2, .int .i64 f3, .int .u64 f4] 30)).alloc (.cells #[.int .i64 0, .int .i64 ad] 25)).cell? ⟨Bf, 0, none⟩ = some (.int .i64 0) := blk_cell (blk_alloc (blk_alloc (blk_below mF hb) (.cells #[.int .i64 f0, .int .i64 f1, .string f2, .int .i64 f3, .int .u64 f4] 30)) (.cells #[.int .i64 0, .int .i64 ad] 25)) 0; have u1c : ((w3.alloc (.cells #[.int .i64 f0, .int .i64 f1, .string f2, .int .i64 f3, .int .u64 f4] 30)).alloc (.cells #[.int .i64 0, .int .i64 ad] 25)).cell? ⟨Bf, 1, none⟩ = some (.int .i64 ad) := blk_cell (blk_alloc (blk_alloc (blk_below mF hb) (.cells #[.int .i64 f0, .int .i64 f1, .string f2, .int .i64 f3, .int .u64 f4] 30)) (.cells #[.int .i64 0, .int .i64 ad] 25)) 1)
            all_goals
              have D2 := (Boxed.other (Boxed.other (Boxed.other (show Boxed _ (w.heap.size) _ _ from Q2.out) (by show w.heap.size ≠ w.heap.size + 1 + 1 + 1 + 1 + 1; omega) (.bool false)) (by show w.heap.size ≠ w.heap.size + 1 + 1 + 1; omega) (.int .i64 t2)) (by show w.heap.size ≠ w.heap.size + 1 + 1 + 1 + 1; omega) (.int .i64 (pre.length + 1)))
              have D3 := (Boxed.other (Boxed.other (Boxed.other (show Boxed _ (w.heap.size + 1) _ _ from Q3.out) (by show w.heap.size + 1 ≠ w.heap.size + 1 + 1 + 1 + 1 + 1; omega) (.bool false)) (by show w.heap.size + 1 ≠ w.heap.size + 1 + 1 + 1; omega) (.int .i64 t2)) (by show w.heap.size + 1 ≠ w.heap.size + 1 + 1 + 1 + 1; omega) (.int .i64 (pre.length + 1)))
              have D4 := (Boxed.other (Boxed.other (Boxed.other (show Boxed _ (w.heap.size + 1 + 1) _ _ from Q4.out) (by show w.heap.size + 1 + 1 ≠ w.heap.size + 1 + 1 + 1 + 1 + 1; omega) (.bool false)) (by show w.heap.size + 1 + 1 ≠ w.heap.size + 1 + 1 + 1; omega) (.int .i64 t2)) (by show w.heap.size + 1 + 1 ≠ w.heap.size + 1 + 1 + 1 + 1; omega) (.int .i64 (pre.length + 1)))
              have D5 := (Boxed.other (Boxed.set (.int .i64 t2) (Boxed.other (show Boxed _ (w.heap.size + 1 + 1 + 1) _ _ from Q5.out) (by show w.heap.size + 1 + 1 + 1 ≠ w.heap.size + 1 + 1 + 1 + 1 + 1; omega) (.bool false))) (by show w.heap.size + 1 + 1 + 1 ≠ w.heap.size + 1 + 1 + 1 + 1; omega) (.int .i64 (pre.length + 1)))
              have D6 := (Boxed.set (.int .i64 (pre.length + 1)) (Boxed.other (Boxed.other (show Boxed _ (w.heap.size + 1 + 1 + 1 + 1) _ _ from Q6.out) (by show w.heap.size + 1 + 1 + 1 + 1 ≠ w.heap.size + 1 + 1 + 1 + 1 + 1; omega) (.bool false)) (by show w.heap.size + 1 + 1 + 1 + 1 ≠ w.heap.size + 1 + 1 + 1; omega) (.int .i64 t2)))
              have D7 := (Boxed.other (Boxed.other (Boxed.set (.bool false) (show Boxed _ (w.heap.size + 1 + 1 + 1 + 1 + 1) _ _ from Q7.out)) (by show w.heap.size + 1 + 1 + 1 + 1 + 1 ≠ w.heap.size + 1 + 1 + 1; omega) (.int .i64 t2)) (by show w.heap.size + 1 + 1 + 1 + 1 + 1 ≠ w.heap.size + 1 + 1 + 1 + 1; omega) (.int .i64 (pre.length + 1)))
              have D8 := (Boxed.other (Boxed.other (Boxed.other (show Boxed _ (w.heap.size + 1 + 1 + 1 + 1 + 1 + 1) _ _ from Q8.out) (by show w.heap.size + 1 + 1 + 1 + 1 + 1 + 1 ≠ w.heap.size + 1 + 1 + 1 + 1 + 1; omega) (.bool false)) (by show w.heap.size + 1 + 1 + 1 + 1 + 1 + 1 ≠ w.heap.size + 1 + 1 + 1; omega) (.int .i64 t2)) (by show w.heap.size + 1 + 1 + 1 + 1 + 1 + 1 ≠ w.heap.size + 1 + 1 + 1 + 1; omega) (.int .i64 (pre.length + 1)))
              have DK := (((QK.out.trans ((KeepsOthers.setCell _ ⟨w.heap.size + 1 + 1 + 1 + 1 + 1, 0, none⟩ (.bool false)).from _)).trans ((KeepsOthers.setCell _ ⟨w.heap.size + 1 + 1 + 1, 0, none⟩ (.int .i64 t2)).from _)).trans ((KeepsOthers.setCell _ ⟨w.heap.size + 1 + 1 + 1 + 1, 0, none⟩ (.int .i64 (pre.length + 1))).from _))
              have DW := (((QW.out.setCell (p := ⟨w.heap.size + 1 + 1 + 1 + 1 + 1, 0, none⟩) (by show w.heap.size ≤ w.heap.size + 1 + 1 + 1 + 1 + 1; omega) (.bool false)).setCell (p := ⟨w.heap.size + 1 + 1 + 1, 0, none⟩) (by show w.heap.size ≤ w.heap.size + 1 + 1 + 1; omega) (.int .i64 t2)).setCell (p := ⟨w.heap.size + 1 + 1 + 1 + 1, 0, none⟩) (by show w.heap.size ≤ w.heap.size + 1 + 1 + 1 + 1; omega) (.int .i64 (pre.length + 1)))
              have DB := (((QB.out.setCell (p := ⟨w.heap.size + 1 + 1 + 1 + 1 + 1, 0, none⟩) (by show w.heap.size ≤ w.heap.size + 1 + 1 + 1 + 1 + 1; omega) (.bool false)).setCell (p := ⟨w.heap.size + 1 + 1 + 1, 0, none⟩) (by show w.heap.size ≤ w.heap.size + 1 + 1 + 1; omega) (.int .i64 t2)).setCell (p := ⟨w.heap.size + 1 + 1 + 1 + 1, 0, none⟩) (by show w.heap.size ≤ w.heap.size + 1 + 1 + 1 + 1; omega) (.int .i64 (pre.length + 1)))
              have hlen : (((pre ++ [(((⟨f0, f1, f2, f3, f4⟩ : S30), (0 : Int), ad) : E)]).length : Nat) : Int) = (pre.length : Int) + 1 := by simp
              first
                | exact ⟨DK, ⟨DW, D8.cell.trans c8.cell.symm⟩, ⟨t2, false, HAT.out, D5, by rw [hlen]; exact D6, D7, D2, D3, D4, D8⟩, DB⟩
                | exact ⟨DK.trans ((KeepsOthers.setCell _ _ _).from _), ⟨rfl, true, Boxed.set _ D4, fun h => by cases h⟩, DB.setCell (p := ⟨w.heap.size + 1 + 1, 0, none⟩) (by show w.heap.size ≤ w.heap.size + 1 + 1; omega) _⟩
        · have e7 : (cd == 0) = false := beq_eq_false_iff_ne.2 hcd
          have g7 : (cd != 0) = true := bne_iff_ne.2 hcd
          have hat : At S L (pre ++ [(((⟨f0, f1, f2, f3, f4⟩ : S30), cd, ad) : E)]) t2 true := .inl ⟨rfl, by
            rcases HFIN.out with ⟨h, _⟩ | ⟨h, _⟩
            · rw [hLp.out, h]
            · exact absurd h hcd⟩
          have HAT := Aside0.mk hat
          clear hat hcd
          gi_wp2_with (refine ⟨trivial, ?_⟩; gi_at_call 16; refine (CallsIn.inRound l (callsIn_wide.2 (HNX.out _))).mono ?_; rintro e w3 ⟨rfl, hb⟩; have HBb := Aside0.mk hb; have Q2 := Aside0.mk (blk_alloc (blk_alloc (blk_below m2 hb) (.cells #[.int .i64 f0, .int .i64 f1, .string f2, .int .i64 f3, .int .u64 f4] 30)) (.cells #[.int .i64 cd, .int .i64 ad] 25)); have Q3 := Aside0.mk (blk_alloc (blk_alloc (blk_below m3 hb) (.cells #[.int .i64 f0, .int .i64 f1, .string f2, .int .i64 f3, .int .u64 f4] 30)) (.cells #[.int .i64 cd, .int .i64 ad] 25)); have Q4 := Aside0.mk (blk_alloc (blk_alloc (blk_below m4 hb) (.cells #[.int .i64 f0, .int .i64 f1, .string f2, .int .i64 f3, .int .u64 f4] 30)) (.cells #[.int .i64 cd, .int .i64 ad] 25)); have Q5 := Aside0.mk (blk_alloc (blk_alloc (blk_below m5 hb) (.cells #[.int .i64 f0, .int .i64 f1, .string f2, .int .i64 f3, .int .u64 f4] 30)) (.cells #[.int .i64 cd, .int .i64 ad] 25)); have Q6 := Aside0.mk (blk_alloc (blk_alloc (blk_below m6 hb) (.cells #[.int .i64 f0, .int .i64 f1, .string f2, .int .i64 f3, .int .u64 f4] 30)) (.cells #[.int .i64 cd, .int .i64 ad] 25)); have Q7 := Aside0.mk (blk_alloc (blk_alloc (blk_below m7 hb) (.cells #[.int .i64 f0, .int .i64 f1, .string f2, .int .i64 f3, .int .u64 f4] 30)) (.cells #[.int .i64 cd, .int .i64 ad] 25)); have Q8 := Aside0.mk (blk_alloc (blk_alloc (blk_below m8 hb) (.cells #[.int .i64 f0, .int .i64 f1, .string f2, .int .i64 f3, .int .u64 f4] 30)) (.cells #[.int .i64 cd, .int .i64 ad] 25)); have QB := Aside0.mk (below_alloc (below_alloc ((hB.trans mB).trans (hb.mono (Nat.le_trans hBz mB.size))) (.cells #[.int .i64 f0, .int .i64 f1, .string f2, .int .i64 f3, .int .u64 f4] 30)) (.cells #[.int .i64 cd, .int .i64 ad] 25)); have QW := Aside0.mk (((mB.trans (hb.mono (Nat.le_trans hBz mB.size))).alloc (Nat.le_trans (Nat.le_trans hBz mB.size) hb.size) (.cells #[.int .i64 f0, .int .i64 f1, .string f2, .int .i64 f3, .int .u64 f4] 30)).alloc (Nat.le_trans (Nat.le_trans (Nat.le_trans hBz mB.size) hb.size) (below_alloc (Below.refl _ w3) _).size) (.cells #[.int .i64 cd, .int .i64 ad] 25)); have QK := Aside0.mk ((mK.trans (KeepsFrom.of_grownBy (grown_of_below hb none) (by simp))).trans (((KeepsOthers.alloc w3 (.cells #[.int .i64 f0, .int .i64 f1, .string f2, .int .i64 f3, .int .u64 f4] 30)).trans (KeepsOthers.alloc _ (.cells #[.int .i64 cd, .int .i64 ad] 25))).from _)); have v2 := Boxed.cell (blk_alloc (blk_alloc (blk_below m2 hb) (.cells #[.int .i64 f0, .int .i64 f1, .string f2, .int .i64 f3, .int .u64 f4] 30)) (.cells #[.int .i64 cd, .int .i64 ad] 25)); have v3 := Boxed.cell (blk_alloc (blk_alloc (blk_below m3 hb) (.cells #[.int .i64 f0, .int .i64 f1, .string f2, .int .i64 f3, .int .u64 f4] 30)) (.cells #[.int .i64 cd, .int .i64 ad] 25)); have v4 := Boxed.cell (blk_alloc (blk_alloc (blk_below m4 hb) (.cells #[.int .i64 f0, .int .i64 f1, .string f2, .int .i64 f3, .int .u64 f4] 30)) (.cells #[.int .i64 cd, .int .i64 ad] 25)); have v5 := Boxed.cell (blk_alloc (blk_alloc (blk_below m5 hb) (.cells #[.int .i64 f0, .int .i64 f1, .string f2, .int .i64 f3, .int .u64 f4] 30)) (.cells #[.int .i64 cd, .int .i64 ad] 25)); have v6 := Boxed.cell (blk_alloc (blk_alloc (blk_below m6 hb) (.cells #[.int .i64 f0, .int .i64 f1, .string f2, .int .i64 f3, .int .u64 f4] 30)) (.cells #[.int .i64 cd, .int .i64 ad] 25)); have v7 := Boxed.cell (blk_alloc (blk_alloc (blk_below m7 hb) (.cells #[.int .i64 f0, .int .i64 f1, .string f2, .int .i64 f3, .int .u64 f4] 30)) (.cells #[.int .i64 cd, .int .i64 ad] 25)); have v4f := Boxed.frozen (blk_alloc (blk_alloc (blk_below m4 hb) (.cells #[.int .i64 f0, .int .i64 f1, .string f2, .int .i64 f3, .int .u64 f4] 30)) (.cells #[.int .i64 cd, .int .i64 ad] 25)); have v5f := Boxed.frozen (blk_alloc (blk_alloc (blk_below m5 hb) (.cells #[.int .i64 f0, .int .i64 f1, .string f2, .int .i64 f3, .int .u64 f4] 30)) (.cells #[.int .i64 cd, .int .i64 ad] 25)); have v6f := Boxed.frozen (blk_alloc (blk_alloc (blk_below m6 hb) (.cells #[.int .i64 f0, .int .i64 f1, .string f2, .int .i64 f3, .int .u64 f4] 30)) (.cells #[.int .i64 cd, .int .i64 ad] 25)); have v7f := Boxed.frozen (blk_alloc (blk_alloc (blk_below m7 hb) (.cells #[.int .i64 f0, .int .i64 f1, .string f2, .int .i64 f3, .int .u64 f4] 30)) (.cells #[.int .i64 cd, .int .i64 ad] 25)); have t0c : ((w3.alloc (.cells #[.int .i64 f0, .int .i64 f1, .string f2, .int .i64 f3, .int .u64 f4] 30)).alloc (.cells #[.int .i64 cd, .int .i64 ad] 25)).cell? ⟨Bt, 0, none⟩ = some (.int .i64 f0) := blk_cell (blk_alloc (blk_alloc (blk_below mT hb) (.cells #[.int .i64 f0, .int .i64 f1, .string f2, .int .i64 f3, .int .u64 f4] 30)) (.cells #[.int .i64 cd, .int .i64 ad] 25)) 0; have t1c : ((w3.alloc (.cells #[.int .i64 f0, .int .i64 f1, .string f2, .int .i64 f3, .int .u64 f4] 30)).alloc (.cells #[.int .i64 cd, .int .i64 ad] 25)).cell? ⟨Bt, 1, none⟩ = some (.int .i64 f1) := blk_cell (blk_alloc (blk_alloc (blk_below mT hb) (.cells #[.int .i64 f0, .int .i64 f1, .string f2, .int .i64 f3, .int .u64 f4] 30)) (.cells #[.int .i64 cd, .int .i64 ad] 25)) 1; have t2c : ((w3.alloc (.cells #[.int .i64 f0, .int .i64 f1, .string f2, .int .i64 f3, .int .u64 f4] 30)).alloc (.cells #[.int .i64 cd, .int .i64 ad] 25)).cell? ⟨Bt, 2, none⟩ = some (.string f2) := blk_cell (blk_alloc (blk_alloc (blk_below mT hb) (.cells #[.int .i64 f0, .int .i64 f1, .string f2, .int .i64 f3, .int .u64 f4] 30)) (.cells #[.int .i64 cd, .int .i64 ad] 25)) 2; have t3c : ((w3.alloc (.cells #[.int .i64 f0, .int .i64 f1, .string f2, .int .i64 f3, .int .u64 f4] 30)).alloc (.cells #[.int .i64 cd, .int .i64 ad] 25)).cell? ⟨Bt, 3, none⟩ = some (.int .i64 f3) := blk_cell (blk_alloc (blk_alloc (blk_below mT hb) (.cells #[.int .i64 f0, .int .i64 f1, .string f2, .int .i64 f3, .int .u64 f4] 30)) (.cells #[.int .i64 cd, .int .i64 ad] 25)) 3; have t4c : ((w3.alloc (.cells #[.int .i64 f0, .int .i64 f1, .string f2, .int .i64 f3, .int .u64 f4] 30)).alloc (.cells #[.int .i64 cd, .int .i64 ad] 25)).cell? ⟨Bt, 4, none⟩ = some (.int .u64 f4) := blk_cell (blk_alloc (blk_alloc (blk_below mT hb) (.cells #[.int .i64 f0, .int .i64 f1, .string f2, .int .i64 f3, .int .u64 f4] 30)) (.cells #[.int .i64 cd, .int .i64 ad] 25)) 4; have u0c : ((w3.alloc (.cells #[.int .i64 f0, .int .i64 f1, .string f2, .int .i64 f3, .int .u64 f4] 30)).alloc (.cells #[.int .i64 cd, .int .i64 ad] 25)).cell? ⟨Bf, 0, none⟩ = some (.int .i64 cd) := blk_cell (blk_alloc (blk_alloc (blk_below mF hb) (.cells #[.int .i64 f0, .int .i64 f1, .string f2, .int .i64 f3, .int .u64 f4] 30)) (.cells #[.int .i64 cd, .int .i64 ad] 25)) 0; have u1c : ((w3.alloc (.cells #[.int .i64 f0, .int .i64 f1, .string f2, .int .i64 f3, .int .u64 f4] 30)).alloc (.cells #[.int .i64 cd, .int .i64 ad] 25)).cell? ⟨Bf, 1, none⟩ = some (.int .i64 ad) := blk_cell (blk_alloc (blk_alloc (blk_below mF hb) (.cells #[.int .i64 f0, .int .i64 f1, .string f2, .int .i64 f3, .int .u64 f4] 30)) (.cells #[.int .i64 cd, .int .i64 ad] 25)) 1)
          all_goals
            have D2 := (Boxed.other (Boxed.other (Boxed.other (show Boxed _ (w.heap.size) _ _ from Q2.out) (by show w.heap.size ≠ w.heap.size + 1 + 1 + 1 + 1 + 1; omega) (.bool true)) (by show w.heap.size ≠ w.heap.size + 1 + 1 + 1; omega) (.int .i64 t2)) (by show w.heap.size ≠ w.heap.size + 1 + 1 + 1 + 1; omega) (.int .i64 (pre.length + 1)))
            have D3 := (Boxed.other (Boxed.other (Boxed.other (show Boxed _ (w.heap.size + 1) _ _ from Q3.out) (by show w.heap.size + 1 ≠ w.heap.size + 1 + 1 + 1 + 1 + 1; omega) (.bool true)) (by show w.heap.size + 1 ≠ w.heap.size + 1 + 1 + 1; omega) (.int .i64 t2)) (by show w.heap.size + 1 ≠ w.heap.size + 1 + 1 + 1 + 1; omega) (.int .i64 (pre.length + 1)))
            have D4 := (Boxed.other (Boxed.other (Boxed.other (show Boxed _ (w.heap.size + 1 + 1) _ _ from Q4.out) (by show w.heap.size + 1 + 1 ≠ w.heap.size + 1 + 1 + 1 + 1 + 1; omega) (.bool true)) (by show w.heap.size + 1 + 1 ≠ w.heap.size + 1 + 1 + 1; omega) (.int .i64 t2)) (by show w.heap.size + 1 + 1 ≠ w.heap.size + 1 + 1 + 1 + 1; omega) (.int .i64 (pre.length + 1)))
            have D5 := (Boxed.other (Boxed.set (.int .i64 t2) (Boxed.other (show Boxed _ (w.heap.size + 1 + 1 + 1) _ _ from Q5.out) (by show w.heap.size + 1 + 1 + 1 ≠ w.heap.size + 1 + 1 + 1 + 1 + 1; omega) (.bool true))) (by show w.heap.size + 1 + 1 + 1 ≠ w.heap.size + 1 + 1 + 1 + 1; omega) (.int .i64 (pre.length + 1)))
            have D6 := (Boxed.set (.int .i64 (pre.length + 1)) (Boxed.other (Boxed.other (show Boxed _ (w.heap.size + 1 + 1 + 1 + 1) _ _ from Q6.out) (by show w.heap.size + 1 + 1 + 1 + 1 ≠ w.heap.size + 1 + 1 + 1 + 1 + 1; omega) (.bool true)) (by show w.heap.size + 1 + 1 + 1 + 1 ≠ w.heap.size + 1 + 1 + 1; omega) (.int .i64 t2)))
            have D7 := (Boxed.other (Boxed.other (Boxed.set (.bool true) (show Boxed _ (w.heap.size + 1 + 1 + 1 + 1 + 1) _ _ from Q7.out)) (by show w.heap.size + 1 + 1 + 1 + 1 + 1 ≠ w.heap.size + 1 + 1 + 1; omega) (.int .i64 t2)) (by show w.heap.size + 1 + 1 + 1 + 1 + 1 ≠ w.heap.size + 1 + 1 + 1 + 1; omega) (.int .i64 (pre.length + 1)))
            have D8 := (Boxed.other (Boxed.other (Boxed.other (show Boxed _ (w.heap.size + 1 + 1 + 1 + 1 + 1 + 1) _ _ from Q8.out) (by show w.heap.size + 1 + 1 + 1 + 1 + 1 + 1 ≠ w.heap.size + 1 + 1 + 1 + 1 + 1; omega) (.bool true)) (by show w.heap.size + 1 + 1 + 1 + 1 + 1 + 1 ≠ w.heap.size + 1 + 1 + 1; omega) (.int .i64 t2)) (by show w.heap.size + 1 + 1 + 1 + 1 + 1 + 1 ≠ w.heap.size + 1 + 1 + 1 + 1; omega) (.int .i64 (pre.length + 1)))
            have DK := (((QK.out.trans ((KeepsOthers.setCell _ ⟨w.heap.size + 1 + 1 + 1 + 1 + 1, 0, none⟩ (.bool true)).from _)).trans ((KeepsOthers.setCell _ ⟨w.heap.size + 1 + 1 + 1, 0, none⟩ (.int .i64 t2)).from _)).trans ((KeepsOthers.setCell _ ⟨w.heap.size + 1 + 1 + 1 + 1, 0, none⟩ (.int .i64 (pre.length + 1))).from _))
            have DW := (((QW.out.setCell (p := ⟨w.heap.size + 1 + 1 + 1 + 1 + 1, 0, none⟩) (by show w.heap.size ≤ w.heap.size + 1 + 1 + 1 + 1 + 1; omega) (.bool true)).setCell (p := ⟨w.heap.size + 1 + 1 + 1, 0, none⟩) (by show w.heap.size ≤ w.heap.size + 1 + 1 + 1; omega) (.int .i64 t2)).setCell (p := ⟨w.heap.size + 1 + 1 + 1 + 1, 0, none⟩) (by show w.heap.size ≤ w.heap.size + 1 + 1 + 1 + 1; omega) (.int .i64 (pre.length + 1)))
            have DB := (((QB.out.setCell (p := ⟨w.heap.size + 1 + 1 + 1 + 1 + 1, 0, none⟩) (by show w.heap.size ≤ w.heap.size + 1 + 1 + 1 + 1 + 1; omega) (.bool true)).setCell (p := ⟨w.heap.size + 1 + 1 + 1, 0, none⟩) (by show w.heap.size ≤ w.heap.size + 1 + 1 + 1; omega) (.int .i64 t2)).setCell (p := ⟨w.heap.size + 1 + 1 + 1 + 1, 0, none⟩) (by show w.heap.size ≤ w.heap.size + 1 + 1 + 1 + 1; omega) (.int .i64 (pre.length + 1)))
            have hlen : (((pre ++ [(((⟨f0, f1, f2, f3, f4⟩ : S30), cd, ad) : E)]).length : Nat) : Int) = (pre.length : Int) + 1 := by simp
            first
              | exact ⟨DK, ⟨DW, D8.cell.trans c8.cell.symm⟩, ⟨t2, true, HAT.out, D5, by rw [hlen]; exact D6, D7, D2, D3, D4, D8⟩, DB⟩
              | exact ⟨DK.trans ((KeepsOthers.setCell _ _ _).from _), ⟨rfl, true, Boxed.set _ D4, fun h => by cases h⟩, DB.setCell (p := ⟨w.heap.size + 1 + 1, 0, none⟩) (by show w.heap.size ≤ w.heap.size + 1 + 1; omega) _⟩
      · have HXY := Aside0.mk hxy
        clear hxy
        gi_wp2_with (refine ⟨trivial, ?_⟩; gi_at_call 16; refine (CallsIn.inRound l (callsIn_wide.2 (HNX.out _))).mono ?_; rintro e w3 ⟨rfl, hb⟩; have HBb := Aside0.mk hb; have Q2 := Aside0.mk (blk_alloc (blk_alloc (blk_below m2 hb) (.cells #[.int .i64 y.1.f0, .int .i64 y.1.f1, .string y.1.f2, .int .i64 y.1.f3, .int .u64 y.1.f4] 30)) (.cells #[.int .i64 y.2.1, .int .i64 y.2.2] 25)); have Q3 := Aside0.mk (blk_alloc (blk_alloc (blk_below m3 hb) (.cells #[.int .i64 y.1.f0, .int .i64 y.1.f1, .string y.1.f2, .int .i64 y.1.f3, .int .u64 y.1.f4] 30)) (.cells #[.int .i64 y.2.1, .int .i64 y.2.2] 25)); have Q4 := Aside0.mk (blk_alloc (blk_alloc (blk_below m4 hb) (.cells #[.int .i64 y.1.f0, .int .i64 y.1.f1, .string y.1.f2, .int .i64 y.1.f3, .int .u64 y.1.f4] 30)) (.cells #[.int .i64 y.2.1, .int .i64 y.2.2] 25)); have Q5 := Aside0.mk (blk_alloc (blk_alloc (blk_below m5 hb) (.cells #[.int .i64 y.1.f0, .int .i64 y.1.f1, .string y.1.f2, .int .i64 y.1.f3, .int .u64 y.1.f4] 30)) (.cells #[.int .i64 y.2.1, .int .i64 y.2.2] 25)); have Q6 := Aside0.mk (blk_alloc (blk_alloc (blk_below m6 hb) (.cells #[.int .i64 y.1.f0, .int .i64 y.1.f1, .string y.1.f2, .int .i64 y.1.f3, .int .u64 y.1.f4] 30)) (.cells #[.int .i64 y.2.1, .int .i64 y.2.2] 25)); have Q7 := Aside0.mk (blk_alloc (blk_alloc (blk_below m7 hb) (.cells #[.int .i64 y.1.f0, .int .i64 y.1.f1, .string y.1.f2, .int .i64 y.1.f3, .int .u64 y.1.f4] 30)) (.cells #[.int .i64 y.2.1, .int .i64 y.2.2] 25)); have Q8 := Aside0.mk (blk_alloc (blk_alloc (blk_below m8 hb) (.cells #[.int .i64 y.1.f0, .int .i64 y.1.f1, .string y.1.f2, .int .i64 y.1.f3, .int .u64 y.1.f4] 30)) (.cells #[.int .i64 y.2.1, .int .i64 y.2.2] 25)); have QB := Aside0.mk (below_alloc (below_alloc ((hB.trans mB).trans (hb.mono (Nat.le_trans hBz mB.size))) (.cells #[.int .i64 y.1.f0, .int .i64 y.1.f1, .string y.1.f2, .int .i64 y.1.f3, .int .u64 y.1.f4] 30)) (.cells #[.int .i64 y.2.1, .int .i64 y.2.2] 25)); have QW := Aside0.mk (((mB.trans (hb.mono (Nat.le_trans hBz mB.size))).alloc (Nat.le_trans (Nat.le_trans hBz mB.size) hb.size) (.cells #[.int .i64 y.1.f0, .int .i64 y.1.f1, .string y.1.f2, .int .i64 y.1.f3, .int .u64 y.1.f4] 30)).alloc (Nat.le_trans (Nat.le_trans (Nat.le_trans hBz mB.size) hb.size) (below_alloc (Below.refl _ w3) _).size) (.cells #[.int .i64 y.2.1, .int .i64 y.2.2] 25)); have QK := Aside0.mk ((mK.trans (KeepsFrom.of_grownBy (grown_of_below hb none) (by simp))).trans (((KeepsOthers.alloc w3 (.cells #[.int .i64 y.1.f0, .int .i64 y.1.f1, .string y.1.f2, .int .i64 y.1.f3, .int .u64 y.1.f4] 30)).trans (KeepsOthers.alloc _ (.cells #[.int .i64 y.2.1, .int .i64 y.2.2] 25))).from _)); have v2 := Boxed.cell (blk_alloc (blk_alloc (blk_below m2 hb) (.cells #[.int .i64 y.1.f0, .int .i64 y.1.f1, .string y.1.f2, .int .i64 y.1.f3, .int .u64 y.1.f4] 30)) (.cells #[.int .i64 y.2.1, .int .i64 y.2.2] 25)); have v3 := Boxed.cell (blk_alloc (blk_alloc (blk_below m3 hb) (.cells #[.int .i64 y.1.f0, .int .i64 y.1.f1, .string y.1.f2, .int .i64 y.1.f3, .int .u64 y.1.f4] 30)) (.cells #[.int .i64 y.2.1, .int .i64 y.2.2] 25)); have v4 := Boxed.cell (blk_alloc (blk_alloc (blk_below m4 hb) (.cells #[.int .i64 y.1.f0, .int .i64 y.1.f1, .string y.1.f2, .int .i64 y.1.f3, .int .u64 y.1.f4] 30)) (.cells #[.int .i64 y.2.1, .int .i64 y.2.2] 25)); have v5 := Boxed.cell (blk_alloc (blk_alloc (blk_below m5 hb) (.cells #[.int .i64 y.1.f0, .int .i64 y.1.f1, .string y.1.f2, .int .i64 y.1.f3, .int .u64 y.1.f4] 30)) (.cells #[.int .i64 y.2.1, .int .i64 y.2.2] 25)); have v6 := Boxed.cell (blk_alloc (blk_alloc (blk_below m6 hb) (.cells #[.int .i64 y.1.f0, .int .i64 y.1.f1, .string y.1.f2, .int .i64 y.1.f3, .int .u64 y.1.f4] 30)) (.cells #[.int .i64 y.2.1, .int .i64 y.2.2] 25)); have v7 := Boxed.cell (blk_alloc (blk_alloc (blk_below m7 hb) (.cells #[.int .i64 y.1.f0, .int .i64 y.1.f1, .string y.1.f2, .int .i64 y.1.f3, .int .u64 y.1.f4] 30)) (.cells #[.int .i64 y.2.1, .int .i64 y.2.2] 25)); have v4f := Boxed.frozen (blk_alloc (blk_alloc (blk_below m4 hb) (.cells #[.int .i64 y.1.f0, .int .i64 y.1.f1, .string y.1.f2, .int .i64 y.1.f3, .int .u64 y.1.f4] 30)) (.cells #[.int .i64 y.2.1, .int .i64 y.2.2] 25)); have v5f := Boxed.frozen (blk_alloc (blk_alloc (blk_below m5 hb) (.cells #[.int .i64 y.1.f0, .int .i64 y.1.f1, .string y.1.f2, .int .i64 y.1.f3, .int .u64 y.1.f4] 30)) (.cells #[.int .i64 y.2.1, .int .i64 y.2.2] 25)); have v6f := Boxed.frozen (blk_alloc (blk_alloc (blk_below m6 hb) (.cells #[.int .i64 y.1.f0, .int .i64 y.1.f1, .string y.1.f2, .int .i64 y.1.f3, .int .u64 y.1.f4] 30)) (.cells #[.int .i64 y.2.1, .int .i64 y.2.2] 25)); have v7f := Boxed.frozen (blk_alloc (blk_alloc (blk_below m7 hb) (.cells #[.int .i64 y.1.f0, .int .i64 y.1.f1, .string y.1.f2, .int .i64 y.1.f3, .int .u64 y.1.f4] 30)) (.cells #[.int .i64 y.2.1, .int .i64 y.2.2] 25)); have t0c : ((w3.alloc (.cells #[.int .i64 y.1.f0, .int .i64 y.1.f1, .string y.1.f2, .int .i64 y.1.f3, .int .u64 y.1.f4] 30)).alloc (.cells #[.int .i64 y.2.1, .int .i64 y.2.2] 25)).cell? ⟨Bt, 0, none⟩ = some (.int .i64 f0) := blk_cell (blk_alloc (blk_alloc (blk_below mT hb) (.cells #[.int .i64 y.1.f0, .int .i64 y.1.f1, .string y.1.f2, .int .i64 y.1.f3, .int .u64 y.1.f4] 30)) (.cells #[.int .i64 y.2.1, .int .i64 y.2.2] 25)) 0; have t1c : ((w3.alloc (.cells #[.int .i64 y.1.f0, .int .i64 y.1.f1, .string y.1.f2, .int .i64 y.1.f3, .int .u64 y.1.f4] 30)).alloc (.cells #[.int .i64 y.2.1, .int .i64 y.2.2] 25)).cell? ⟨Bt, 1, none⟩ = some (.int .i64 f1) := blk_cell (blk_alloc (blk_alloc (blk_below mT hb) (.cells #[.int .i64 y.1.f0, .int .i64 y.1.f1, .string y.1.f2, .int .i64 y.1.f3, .int .u64 y.1.f4] 30)) (.cells #[.int .i64 y.2.1, .int .i64 y.2.2] 25)) 1; have t2c : ((w3.alloc (.cells #[.int .i64 y.1.f0, .int .i64 y.1.f1, .string y.1.f2, .int .i64 y.1.f3, .int .u64 y.1.f4] 30)).alloc (.cells #[.int .i64 y.2.1, .int .i64 y.2.2] 25)).cell? ⟨Bt, 2, none⟩ = some (.string f2) := blk_cell (blk_alloc (blk_alloc (blk_below mT hb) (.cells #[.int .i64 y.1.f0, .int .i64 y.1.f1, .string y.1.f2, .int .i64 y.1.f3, .int .u64 y.1.f4] 30)) (.cells #[.int .i64 y.2.1, .int .i64 y.2.2] 25)) 2; have t3c : ((w3.alloc (.cells #[.int .i64 y.1.f0, .int .i64 y.1.f1, .string y.1.f2, .int .i64 y.1.f3, .int .u64 y.1.f4] 30)).alloc (.cells #[.int .i64 y.2.1, .int .i64 y.2.2] 25)).cell? ⟨Bt, 3, none⟩ = some (.int .i64 f3) := blk_cell (blk_alloc (blk_alloc (blk_below mT hb) (.cells #[.int .i64 y.1.f0, .int .i64 y.1.f1, .string y.1.f2, .int .i64 y.1.f3, .int .u64 y.1.f4] 30)) (.cells #[.int .i64 y.2.1, .int .i64 y.2.2] 25)) 3; have t4c : ((w3.alloc (.cells #[.int .i64 y.1.f0, .int .i64 y.1.f1, .string y.1.f2, .int .i64 y.1.f3, .int .u64 y.1.f4] 30)).alloc (.cells #[.int .i64 y.2.1, .int .i64 y.2.2] 25)).cell? ⟨Bt, 4, none⟩ = some (.int .u64 f4) := blk_cell (blk_alloc (blk_alloc (blk_below mT hb) (.cells #[.int .i64 y.1.f0, .int .i64 y.1.f1, .string y.1.f2, .int .i64 y.1.f3, .int .u64 y.1.f4] 30)) (.cells #[.int .i64 y.2.1, .int .i64 y.2.2] 25)) 4; have u0c : ((w3.alloc (.cells #[.int .i64 y.1.f0, .int .i64 y.1.f1, .string y.1.f2, .int .i64 y.1.f3, .int .u64 y.1.f4] 30)).alloc (.cells #[.int .i64 y.2.1, .int .i64 y.2.2] 25)).cell? ⟨Bf, 0, none⟩ = some (.int .i64 cd) := blk_cell (blk_alloc (blk_alloc (blk_below mF hb) (.cells #[.int .i64 y.1.f0, .int .i64 y.1.f1, .string y.1.f2, .int .i64 y.1.f3, .int .u64 y.1.f4] 30)) (.cells #[.int .i64 y.2.1, .int .i64 y.2.2] 25)) 0; have u1c : ((w3.alloc (.cells #[.int .i64 y.1.f0, .int .i64 y.1.f1, .string y.1.f2, .int .i64 y.1.f3, .int .u64 y.1.f4] 30)).alloc (.cells #[.int .i64 y.2.1, .int .i64 y.2.2] 25)).cell? ⟨Bf, 1, none⟩ = some (.int .i64 ad) := blk_cell (blk_alloc (blk_alloc (blk_below mF hb) (.cells #[.int .i64 y.1.f0, .int .i64 y.1.f1, .string y.1.f2, .int .i64 y.1.f3, .int .u64 y.1.f4] 30)) (.cells #[.int .i64 y.2.1, .int .i64 y.2.2] 25)) 1)
        all_goals first
          | (have e6 : ad = y.2.2 := by assumption
             exfalso
             have e0 : f0 = y.1.f0 := by assumption
             have e1 : f1 = y.1.f1 := by assumption
             have e2 : f2 = y.1.f2 := toList_inj (by assumption)
             have e3 : f3 = y.1.f3 := by assumption
             have e4 : f4 = y.1.f4 := by assumption
             have e5 : cd = y.2.1 := by assumption
             exact HXY.out (by rw [e0, e1, e2, e3, e4, e5, e6]))
          | exact ⟨QK.out.trans ((KeepsOthers.setCell _ _ _).from _), ⟨rfl, false, Boxed.set _ Q4.out, fun _ => not_pre2 hLp.out HXY.out⟩, QB.out.setCell (p := ⟨w.heap.size + 1 + 1, 0, none⟩) (by show w.heap.size ≤ w.heap.size + 1 + 1; omega) _⟩
  case done =>
    rintro D ys W hD rfl ⟨⟨p, en, hA, c5, c6, c7, c2, c3, c4, c8⟩, hB⟩ hK
    have hen : en = true := by
      rcases hA with ⟨h, _⟩ | ⟨_, _, h⟩
      · exact h
      · have h1 := congrArg List.length h
        have h2 := toks_ne _ (S.data.toList.drop p) p (Nat.le_refl _)
        rw [List.length_append] at h1
        omega
    subst hen
    have x7 := c7.cell
    have x4 := c4.cell
    have y4 := c4.frozen
    clear hA
    gi_wp2
    have hK' := (KeepsOthers.setCell W ⟨w.heap.size + 1 + 1, 0, none⟩ (.bool true)).same D _ hK rfl
    refine ⟨by simp, .inl ⟨_, _, rfl, run_takeDeferred hK', ?_⟩⟩
    have hc5 := cell_kept (Boxed.set (.bool true) c4).cell (grownBy_putObj' _ D (.deferred none)) (fun r e => by cases e; exact ⟨_, hK', rfl⟩)
    refine ⟨.bool true, ?_, rfl, (hB.setCell (p := ⟨w.heap.size + 1 + 1, 0, none⟩) (by show w.heap.size ≤ w.heap.size + 1 + 1; omega) _).trans (belowK_b (w := w) (Nat.le_refl _) _ D _ _ (by omega) hK' rfl rfl)⟩
    simp [results, Tryd.f11, go_sem, hc5]
  case stop =>
    rintro D c pre W hD hpre ⟨⟨rfl, r, c4, hr⟩, hB⟩ hK
    have hrt : r = true := by
      cases r with
      | true => rfl
      | false => exact absurd hpre (hr rfl)
    subst hrt
    gi_wp2
    refine ⟨by simp, .inl ⟨_, _, rfl, run_takeDeferred hK, ?_⟩⟩
    have hc5 := cell_kept c4.cell (grownBy_putObj' _ D (.deferred none)) (fun r e => by cases e; exact ⟨_, hK, rfl⟩)
    refine ⟨.bool true, ?_, rfl, hB.trans (belowK_b (w := w) (Nat.le_refl _) W D _ _ (by omega) hK rfl rfl)⟩
    simp [results, Tryd.f11, go_sem, hc5]
def casketlaw11_goes.f (a0 : ByteArray) (a1 : Int) : Option Bool := if a0.size ≤ 60000 then some true else none
theorem casketlaw11_goes.calls (a0 : ByteArray) (a1 : Int) (r : Bool) (w : World) (hG : Glob w) (h : casketlaw11_goes.f a0 a1 = some r) :
    Calls Tryd.prog 11 #[.string a0, .int .i64 a1] w fun e w' => e = .returned (.bool r) ∧ Below w.heap.size w w' := by
  unfold casketlaw11_goes.f at h
  split at h
  · rename_i hs
    obtain rfl := Option.some.inj h
    exact goes_any a0 a1 hs w hG
  · cases h
end Go.Proofs.YtjolkombhdibcaaDoor.Given
end
section
namespace Go.Proofs.YtjolkombhdibcaaDoor.Given
open Go.RowKit
theorem eqF_nil {P : Program} (w : World) (d : Nat) (t : TypeId) {ps rs : Array TypeId} {vd : Bool} (fn : Fn) (fi ca : Array Value) (h : P.underlying t = some (.func ps rs vd)) : (Op.equalIn (d + 1) t (.func fn fi ca) .nilFunc).run P w = .ok false w := by
  simp [Op.equalIn, run_underlying h]
theorem under32 : ∃ ps rs vd, Tryd.prog.underlying 32 = some (.func ps rs vd) := by
  have h : (match Tryd.prog.underlying 32 with | some (.func _ _ _) => true | _ => false) = true := by kernel_rfl
  split at h
  · next a b c e => exact ⟨a, b, c, e⟩
  · exact absurd h (by simp)
theorem eqF32 (w : World) (d : Nat) (fn : Fn) (fi ca : Array Value) : (Op.equalIn (d + 1) 32 (.func fn fi ca) .nilFunc).run Tryd.prog w = .ok false w := by
  obtain ⟨_, _, _, h⟩ := under32
  exact eqF_nil w d 32 fn fi ca h
theorem eqF32b (w : World) (fn : Fn) (fi ca : Array Value) : (binOp .eql 32 (.func fn fi ca) .nilFunc).run Tryd.prog w = .ok (.bool false) w := by
  simp only [binOp]
  simp [Op.equal, Op.maxDepth, eqF32 w 9999 fn fi ca]
end Go.Proofs.YtjolkombhdibcaaDoor.Given
end
section
namespace Go.Proofs.YtjolkombhdibcaaDoor.Print
open Go.RowKit Go.Proofs.YtjolkombhdibcaaDoor.Given Go.Proofs.YtjolkombhdibcaaDoorW.PrintWords Go.Proofs.YtjolkombhdibcaaDoorW.PrintLast Go.Proofs.YtjolkombhdibcaaDoorW.PrintMore
attribute [local go_sem] max2_int min2_int max_two min_two max_three min_three max_four min_four
set_option linter.unusedVariables false
set_option linter.unusedSimpArgs false
attribute [local go_sem high] eqA25 eqA30 eqF32b
theorem x71_27 {p : Prop} (h : p := by first | omega | exact Nat.le_refl _) : p := h
theorem x71_26 {p : Prop} (h : p := by first | rfl | (simp; done) | (simp [*]; done)) : p := h
theorem x71_25 {p : Prop} (h : p := by first | (with_reducible assumption) | assumption) : p := h
theorem x71_24 {p : Prop} (h : p := by first | rfl | (simp [errW_none, errW_some] <;> rfl) | (simp [*, errW_none, errW_some] <;> rfl)) : p := h
theorem x71_23 {p : Prop} (h : p := by (with_reducible repeat first | apply blk_drewN | apply blk_drew | apply blk_alloc); exact BK452.out) : p := h
theorem x71_22 {p : Prop} (h : p := by (with_reducible repeat first | apply blk_drewN | apply blk_drew | apply blk_alloc); exact BK446.out) : p := h
theorem x71_21 {p : Prop} (h : p := by (with_reducible repeat first | apply blk_drewN | apply blk_drew | apply blk_alloc); exact BK440.out) : p := h
theorem x71_20 {p : Prop} (h : p := by (with_reducible repeat (first | apply Kd.R_alloc | apply Kd.R_drewN | apply Kd.R_drew)); exact HO_9.out) : p := h
theorem x71_19 {p : Prop} (h : p := by (with_reducible repeat (first | apply Kd.R_alloc | apply Kd.R_drewN | apply Kd.R_drew)); exact HO_7.out) : p := h
theorem x71_18 {p : Prop} (h : p := by (with_reducible repeat (first | apply Kd.R_alloc | apply Kd.R_drewN | apply Kd.R_drew)); exact HO_5.out) : p := h
theorem x71_17 {p : Prop} (h : p := by (with_reducible repeat (first | apply Kd.R_alloc | apply Kd.R_drewN | apply Kd.R_drew)); exact HO461.out) : p := h
theorem x71_16 {p : Prop} (h : p := by (with_reducible repeat (first | apply Kd.R_alloc | apply Kd.R_drewN | apply Kd.R_drew)); exact HO443.out) : p := h
theorem x71_15 {p : Prop} (h : p := by (with_reducible repeat (first | apply Kd.R_alloc | apply Kd.R_drewN | apply Kd.R_drew)); exact HO437.out) : p := h
theorem x71_14 {p : Prop} (h : p := by repeat (first | (with_reducible first | exact HB.out | apply below_alloc | apply pw_below_drewN | apply below_drew1) | exact HB.out)) : p := h
theorem x71_13 {p : Prop} (h : p := by (with_reducible repeat (first | apply Kd.R_alloc | apply Kd.R_drewN | apply Kd.R_drew)); exact Kd.R_mono HO_5.out (fun _ hk => ⟨hk.2, hk.1⟩)) : p := h
theorem x71_12 {p : Prop} (h : p := by repeat (first | (with_reducible first | exact HB.out | apply below_alloc | apply pw_below_drewN | apply below_drew1 | refine below_set ?_ GE440.out) | exact HB.out)) : p := h
theorem x71_11 {p : Prop} (h : p := by repeat (first | (with_reducible first | exact HB.out | apply below_alloc | apply pw_below_drewN | apply below_drew1 | refine below_set ?_ GE440.out | refine below_set ?_ GE446.out) | exact HB.out)) : p := h
theorem x71_10 {p : Prop} (h : p := by repeat (first | (with_reducible first | exact HB.out | apply below_alloc | apply pw_below_drewN | apply below_drew1 | refine below_set ?_ GE440.out | refine below_set ?_ GE446.out | refine below_set ?_ GE452.out) | exact HB.out)) : p := h
theorem x71_9 {p : Prop} (h : p := by first | exact Glob.at_ HG0.out x71_10 | exact Glob.at_ HG0.out (Below.refl _ _)) : p := h
theorem x71_8 {p : Prop} (h : p := by (with_reducible repeat (first | apply Kd.R_alloc | apply Kd.R_drewN | apply Kd.R_drew)); exact (Kd.R_mono (Kd.R_far (p := ⟨gb446, 1, none⟩) (Kd.R_far (p := ⟨gb446, 0, none⟩) (Kd.R_types HO443.out BK446.out (by decide)) (fun _ hk => hk.2) (.int .i64 t444)) (fun _ hk => hk.2) (.int .i64 t445)) (fun _ h_ => h_.1))) : p := h
theorem x71_7 {p : Prop} (h : p := by (with_reducible repeat (first | apply Kd.R_alloc | apply Kd.R_drewN | apply Kd.R_drew)); exact (Kd.R_mono (Kd.R_far (p := ⟨gb446, 1, none⟩) (Kd.R_far (p := ⟨gb446, 0, none⟩) (Kd.R_types HO437.out BK446.out (by decide)) (fun _ hk => hk.2) (.int .i64 t444)) (fun _ hk => hk.2) (.int .i64 t445)) (fun _ h_ => h_.1))) : p := h
theorem x71_6 {p : Prop} (h : p := by (with_reducible repeat (first | apply Kd.R_alloc | apply Kd.R_drewN | apply Kd.R_drew)); exact (Kd.R_mono (Kd.R_far (p := ⟨gb440, 1, none⟩) (Kd.R_far (p := ⟨gb440, 0, none⟩) (Kd.R_types HO437.out BK440.out (by decide)) (fun _ hk => hk.2) (.int .i64 t438)) (fun _ hk => hk.2) (.int .i64 t439)) (fun _ h_ => h_.1))) : p := h
theorem x71_5 {p : Prop} (h : p := by (with_reducible repeat (first | apply Kd.R_alloc | apply Kd.R_drewN | apply Kd.R_drew)); exact Kd.R_mono (Kd.R_far (p := ⟨gb452, 1, none⟩) (Kd.R_far (p := ⟨gb452, 0, none⟩) (Kd.R_types HO449.out BK452.out (by decide)) (fun _ hk => hk.2) (.int .i64 t450)) (fun _ hk => hk.2) (.int .i64 t451)) (fun _ hk => ⟨hk.1.1.2, hk.1.2⟩)) : p := h
theorem x71_4 {p : Prop} (h : p := by (with_reducible repeat (first | apply Kd.R_alloc | apply Kd.R_drewN | apply Kd.R_drew)); exact Kd.R_mono (Kd.R_far (p := ⟨gb452, 1, none⟩) (Kd.R_far (p := ⟨gb452, 0, none⟩) (Kd.R_types HO443.out BK452.out (by decide)) (fun _ hk => hk.2) (.int .i64 t450)) (fun _ hk => hk.2) (.int .i64 t451)) (fun _ hk => ⟨hk.1.1.2, hk.1.2⟩)) : p := h
theorem x71_3 {p : Prop} (h : p := by (with_reducible repeat (first | apply Kd.R_alloc | apply Kd.R_drewN | apply Kd.R_drew)); exact Kd.R_mono (Kd.R_far (p := ⟨gb452, 1, none⟩) (Kd.R_far (p := ⟨gb452, 0, none⟩) (Kd.R_types HO437.out BK452.out (by decide)) (fun _ hk => hk.2) (.int .i64 t450)) (fun _ hk => hk.2) (.int .i64 t451)) (fun _ hk => ⟨hk.1.1.2, hk.1.2⟩)) : p := h
theorem x71_2 {p : Prop} (h : p := by (with_reducible repeat first | apply blk_drewN | apply blk_drew | apply blk_alloc); refine blk_far ?_ NB446_452.out _; (with_reducible repeat first | apply blk_drewN | apply blk_drew | apply blk_alloc); refine blk_far ?_ NB446_452.out _; (with_reducible repeat first | apply blk_drewN | apply blk_drew | apply blk_alloc); exact BK446.out) : p := h
theorem x71_1 {p : Prop} (h : p := by (with_reducible repeat first | apply blk_drewN | apply blk_drew | apply blk_alloc); refine blk_far ?_ NB440_452.out _; (with_reducible repeat first | apply blk_drewN | apply blk_drew | apply blk_alloc); refine blk_far ?_ NB440_452.out _; (with_reducible repeat first | apply blk_drewN | apply blk_drew | apply blk_alloc); exact BK440.out) : p := h
theorem x71_0 {p : Prop} (h : p := by (with_reducible repeat first | apply blk_drewN | apply blk_drew | apply blk_alloc); refine blk_put (cs := #[.int .i64 t450, .int .i64 0]) ?_ 1 _ rfl; (with_reducible repeat first | apply blk_drewN | apply blk_drew | apply blk_alloc); refine blk_put (cs := #[.int .i64 0, .int .i64 0]) ?_ 0 _ rfl; (with_reducible repeat first | apply blk_drewN | apply blk_drew | apply blk_alloc); exact BK452.out) : p := h
mutual
def casketlaw11_LexReads.j0 : Nat → ByteArray → Int → List (S30) → List (S30) → List (S30) → Bool → Option (Bool)
 | 0, _, _, _, _, _, _ => none
 | k + 1, x0, x1, x5, x7, x9, x53 => if x53 = true then (some false) else (casketlaw11_LexReads.l0 k x0 x1 x5 x7 x9 0)
def casketlaw11_LexReads.l0 : Nat → ByteArray → Int → List (S30) → List (S30) → List (S30) → Int → Option (Bool)
 | 0, _, _, _, _, _, _ => none
 | k + 1, x0, x1, x5, x7, x9, x11 => if x11 < (x5.length : Int) then (if 0 ≤ x11 then (if x11 < (x7.length : Int) then (if (!(((rd_T30 x7 x11).f0) == ((rd_T30 x5 x11).f0)) || (!(((rd_T30 x7 x11).f1) == ((rd_T30 x5 x11).f1)) || (!((((rd_T30 x7 x11).f2).toList) == (((rd_T30 x5 x11).f2).toList)) || (!(((rd_T30 x7 x11).f3) == ((rd_T30 x5 x11).f3)) || (!(((rd_T30 x7 x11).f4) == ((rd_T30 x5 x11).f4))))))) = true then (some false) else (if x11 < (x9.length : Int) then (if (!(((rd_T30 x9 x11).f0) == ((rd_T30 x5 x11).f0)) || (!(((rd_T30 x9 x11).f1) == ((rd_T30 x5 x11).f1)) || (!((((rd_T30 x9 x11).f2).toList) == (((rd_T30 x5 x11).f2).toList)) || (!(((rd_T30 x9 x11).f3) == ((rd_T30 x5 x11).f3)) || (!(((rd_T30 x9 x11).f4) == ((rd_T30 x5 x11).f4))))))) = true then (some false) else (casketlaw11_LexReads.l0 k x0 x1 x5 (x7.set (x11 : Int).toNat (⟨201, 0, (⟨#[]⟩ : ByteArray), 0, 0⟩ : S30)) (x9.set (x11 : Int).toNat (⟨202, 0, (⟨#[]⟩ : ByteArray), 0, 0⟩ : S30)) (wrap64 (x11 + 1)))) else (none))) else (none)) else (none)) else (if x7.length < 2932031007402 then (if x9.length < 2932031007402 then (casketlaw11_LexReads.l1 k x0 x1 (x7 ++ [(⟨201, 0, (⟨#[]⟩ : ByteArray), 0, 0⟩ : S30)]) (x9 ++ [(⟨202, 0, (⟨#[]⟩ : ByteArray), 0, 0⟩ : S30)]) 0) else (none)) else (none))
def casketlaw11_LexReads.l1 : Nat → ByteArray → Int → List (S30) → List (S30) → Int → Option (Bool)
 | 0, _, _, _, _, _ => none
 | k + 1, x0, x1, x7, x9, x12 => if x12 < (x7.length : Int) then (if 0 ≤ x12 then (if ((rd_T30 x7 x12).f0) = 201 then (if x12 < (x9.length : Int) then (if ((rd_T30 x9 x12).f0) = 202 then (casketlaw11_LexReads.l1 k x0 x1 x7 x9 (wrap64 (x12 + 1))) else (some false)) else (none)) else (some false)) else (none)) else ((casketlaw11_goes.f x0 0).bind fun t467 => (if t467 = true then ((casketlaw11_goes.f x0 x1).bind fun t468 => (if t468 = true then ((casketlaw11_awake.f).bind fun t469 => (some t469)) else (some false))) else (some false)))
end
def casketlaw11_LexReads.f (k : Nat) (a0 : ByteArray) (a1 : Int) : Option (Bool) := if (a0.size : Int) > 5000 then (some true) else ((casketref11_All.f k a0).bind fun bt435 => ((lex_All.f a0).bind fun bt441 => ((lex_All.f a0).bind fun bt447 => (if (bt441.1.length : Int) = (bt435.1.length : Int) then (if (bt447.1.length : Int) = (bt435.1.length : Int) then (if (!(bt441.2.1 == bt435.2.1) || (!(bt441.2.2 == bt435.2.2))) = true then (casketlaw11_LexReads.j0 k a0 a1 bt435.1 bt441.1 bt447.1 true) else (casketlaw11_LexReads.j0 k a0 a1 bt435.1 bt441.1 bt447.1 (!(bt447.2.1 == bt435.2.1) || (!(bt447.2.2 == bt435.2.2))))) else (casketlaw11_LexReads.j0 k a0 a1 bt435.1 bt441.1 bt447.1 true)) else (casketlaw11_LexReads.j0 k a0 a1 bt435.1 bt441.1 bt447.1 true)))))
set_option maxHeartbeats 8000000 in
set_option maxRecDepth 100000 in
theorem casketlaw11_LexReads.calls (k : Nat) (a0 : ByteArray) (a1 : Int) (r : Bool) (w : World) (hG : Glob w) (h : casketlaw11_LexReads.f k a0 a1 = some r) :
  Calls Tryd.prog 3 #[.string a0, .int .i64 a1] w fun e w' => e = .returned (.bool r) ∧ Below w.heap.size w w' := by
 have HG0 := Aside0.mk hG
 clear hG
 have hu25 := Tryd.underlying25
 have hu30 := Tryd.underlying30
 have HB := Aside0.mk (Below.refl w.heap.size w)
 have H : (if (a0.size : Int) > 5000 then (some true) else ((casketref11_All.f k a0).bind fun bt435 => ((lex_All.f a0).bind fun bt441 => ((lex_All.f a0).bind fun bt447 => (if (bt441.1.length : Int) = (bt435.1.length : Int) then (if (bt447.1.length : Int) = (bt435.1.length : Int) then (if (!(bt441.2.1 == bt435.2.1) || (!(bt441.2.2 == bt435.2.2))) = true then (casketlaw11_LexReads.j0 k a0 a1 bt435.1 bt441.1 bt447.1 true) else (casketlaw11_LexReads.j0 k a0 a1 bt435.1 bt441.1 bt447.1 (!(bt447.2.1 == bt435.2.1) || (!(bt447.2.2 == bt435.2.2))))) else (casketlaw11_LexReads.j0 k a0 a1 bt435.1 bt441.1 bt447.1 true)) else (casketlaw11_LexReads.j0 k a0 a1 bt435.1 bt441.1 bt447.1 true)))))) = some r := h
 clear h
 by_cases c3 : (a0.size : Int) > 5000
 ·rw [if_pos c3] at H
  have c3b0 : decide (5000 < (a0.size : Int)) = true := decide_eq_true c3
  have c3b1 : decide (5000 < a0.size) = true := decide_eq_true (by omega)
  clear c3
  obtain rfl := Option.some.inj H
  go_enter Tryd.func3, Tryd.ntmps3
  go_wp2
  repeat (go_quiet (fail); try go_wp2)
  go_ret
  exact ⟨x71_24, x71_14⟩
 ·rw [if_neg c3] at H
  have c3b0 : decide (5000 < (a0.size : Int)) = false := decide_eq_false c3
  have c3b1 : decide (5000 < a0.size) = false := decide_eq_false (by omega)
  clear c3
  replace H := Option.bind_eq_some_iff.mp H
  obtain ⟨⟨t435, t438, t439⟩, A40, H⟩ := H
  replace H : ((lex_All.f a0).bind fun bt441 => ((lex_All.f a0).bind fun bt447 => (if (bt441.1.length : Int) = (t435.length : Int) then (if (bt447.1.length : Int) = (t435.length : Int) then (if (!(bt441.2.1 == t438) || (!(bt441.2.2 == t439))) = true then (casketlaw11_LexReads.j0 k a0 a1 t435 bt441.1 bt447.1 true) else (casketlaw11_LexReads.j0 k a0 a1 t435 bt441.1 bt447.1 (!(bt447.2.1 == t438) || (!(bt447.2.2 == t439))))) else (casketlaw11_LexReads.j0 k a0 a1 t435 bt441.1 bt447.1 true)) else (casketlaw11_LexReads.j0 k a0 a1 t435 bt441.1 bt447.1 true)))) = some r := H
  have A4 := Aside0.mk A40
  clear A40
  replace H := Option.bind_eq_some_iff.mp H
  obtain ⟨⟨t441, t444, t445⟩, A50, H⟩ := H
  replace H : ((lex_All.f a0).bind fun bt447 => (if (t441.length : Int) = (t435.length : Int) then (if (bt447.1.length : Int) = (t435.length : Int) then (if (!(t444 == t438) || (!(t445 == t439))) = true then (casketlaw11_LexReads.j0 k a0 a1 t435 t441 bt447.1 true) else (casketlaw11_LexReads.j0 k a0 a1 t435 t441 bt447.1 (!(bt447.2.1 == t438) || (!(bt447.2.2 == t439))))) else (casketlaw11_LexReads.j0 k a0 a1 t435 t441 bt447.1 true)) else (casketlaw11_LexReads.j0 k a0 a1 t435 t441 bt447.1 true))) = some r := H
  have A5 := Aside0.mk A50
  clear A50
  replace H := Option.bind_eq_some_iff.mp H
  obtain ⟨⟨t447, t450, t451⟩, A60, H⟩ := H
  replace H : (if (t441.length : Int) = (t435.length : Int) then (if (t447.length : Int) = (t435.length : Int) then (if (!(t444 == t438) || (!(t445 == t439))) = true then (casketlaw11_LexReads.j0 k a0 a1 t435 t441 t447 true) else (casketlaw11_LexReads.j0 k a0 a1 t435 t441 t447 (!(t450 == t438) || (!(t451 == t439))))) else (casketlaw11_LexReads.j0 k a0 a1 t435 t441 t447 true)) else (casketlaw11_LexReads.j0 k a0 a1 t435 t441 t447 true)) = some r := H
  have A6 := Aside0.mk A60
  clear A60
  have HC7 := Aside0.mk H
  clear H
  go_enter Tryd.func3, Tryd.ntmps3
  go_upto_region 6 with (first | (go_at_call 8; (with_reducible refine (casketref11_All.calls k a0 t435 t438 t439 _ A4.out).mono ?_); rintro e w8 ⟨v436, rfl, ho0, hb⟩; have n0_ := Aside0.mk (Kd.R_lower ho0 (below_size x71_14)); have n1_ := Aside0.mk (below_step x71_14 hb); clear HB; have HO437 := n0_; have HB := n1_; clear n0_ n1_) | ((with_reducible refine gate_dst (N := 6) rfl ?_); (try (refine gate_guard (by rfl) ?_; dsimp only)); refine box_event ?hg (N := 6) ?hd (cs := #[.int .i64 0, .int .i64 0]) (t := 25) ?hr ?_; (case hd => rfl); (case hg => rfl); (case hr => first | (go_simp; done) | (go_simp; rfl)); intro gb440 hg w9 hbox hb; have n0_ := Aside0.mk (Kd.R_below x71_15 hb); have n1_ := Aside0.mk (below_step x71_14 hb); have n2_ := Aside0.mk (hbox); have n3_ := Aside0.mk ((by rw [hg]; exact (below_size x71_14) : w.heap.size ≤ gb440)); have n4_ := Aside0.mk ((by rw [hg]; exact (below_size x71_14) : w.heap.size ≤ gb440)); clear HO437; clear HB; have HO437 := n0_; have HB := n1_; have BK440 := n2_; have GW440 := n3_; have GE440 := n4_; clear n0_ n1_ n2_ n3_ n4_; clear hb hbox hg; have hcz10_0 : w9.cell? ⟨gb440, 0, none⟩ = some (.int .i64 0) := (blk_cell BK440.out 0).trans rfl; have hcz10_1 : w9.cell? ⟨gb440, 1, none⟩ = some (.int .i64 0) := (blk_cell BK440.out 1).trans rfl; have hfz10_0 := blk_frozen BK440.out 0; have hfz10_1 := blk_frozen BK440.out 1) | (go_at_call 9; (with_reducible refine (lex_All.calls (hG := x71_9) a0 t441 t444 t445 _ A5.out).mono ?_); rintro e w11 ⟨v442, rfl, ho0, hb⟩; have n0_ := Aside0.mk (Kd.R_elder' x71_6 (Kd.R_base ho0) hb); have n1_ := Aside0.mk (Kd.R_lower (Kd.R_new' ho0 (Kd.R_lt x71_6)) (below_size x71_12)); have n2_ := Aside0.mk (blk_below (g := gb440) (o := .cells #[.int .i64 t438, .int .i64 t439] 25 (0, 0)) (by (with_reducible repeat first | apply blk_drewN | apply blk_drew | apply blk_alloc); refine blk_put (cs := #[.int .i64 t438, .int .i64 0]) ?_ 1 _ rfl; (with_reducible repeat first | apply blk_drewN | apply blk_drew | apply blk_alloc); refine blk_put (cs := #[.int .i64 0, .int .i64 0]) ?_ 0 _ rfl; (with_reducible repeat first | apply blk_drewN | apply blk_drew | apply blk_alloc); exact BK440.out) hb); have n3_ := Aside0.mk (below_step x71_12 hb); clear HO437; clear BK440; clear HB; have HO437 := n0_; have HO443 := n1_; have BK440 := n2_; have HB := n3_; clear n0_ n1_ n2_ n3_) | ((with_reducible refine gate_dst (N := 8) rfl ?_); (try (refine gate_guard (by rfl) ?_; dsimp only)); refine box_event ?hg (N := 8) ?hd (cs := #[.int .i64 0, .int .i64 0]) (t := 25) ?hr ?_; (case hd => rfl); (case hg => rfl); (case hr => first | (go_simp; done) | (go_simp; rfl)); intro gb446 hg w12 hbox hb; have n0_ := Aside0.mk (Kd.R_below x71_15 hb); have n1_ := Aside0.mk (Kd.R_below x71_16 hb); have n2_ := Aside0.mk (blk_below (g := gb440) (o := .cells #[.int .i64 t438, .int .i64 t439] 25 (0, 0)) x71_21 hb); have n3_ := Aside0.mk (below_step x71_12 hb); have n4_ := Aside0.mk (hbox); have n5_ := Aside0.mk ((by rw [hg]; exact (below_size x71_12) : w.heap.size ≤ gb446)); have n6_ := Aside0.mk ((by rw [hg]; exact (below_size x71_12) : w.heap.size ≤ gb446)); have n7_ := Aside0.mk ((by rw [hg]; exact Nat.ne_of_lt (blk_lt (g := gb440) (o := .cells #[.int .i64 t438, .int .i64 t439] 25 (0, 0)) x71_21) : gb440 ≠ gb446)); have n8_ := Aside0.mk ((by rw [hg]; exact Nat.ne_of_gt (blk_lt (g := gb440) (o := .cells #[.int .i64 t438, .int .i64 t439] 25 (0, 0)) x71_21) : gb446 ≠ gb440)); clear HO437; clear HO443; clear BK440; clear HB; have HO437 := n0_; have HO443 := n1_; have BK440 := n2_; have HB := n3_; have BK446 := n4_; have GW446 := n5_; have GE446 := n6_; have NB440_446 := n7_; have NB446_440 := n8_; clear n0_ n1_ n2_ n3_ n4_ n5_ n6_ n7_ n8_; clear hb hbox hg; have hnb13 := NB446_440.out; have hnc13 := NB440_446.out; have hcz14_0 : w12.cell? ⟨gb446, 0, none⟩ = some (.int .i64 0) := (blk_cell BK446.out 0).trans rfl; have hcz14_1 : w12.cell? ⟨gb446, 1, none⟩ = some (.int .i64 0) := (blk_cell BK446.out 1).trans rfl; have hfz14_0 := blk_frozen BK446.out 0; have hfz14_1 := blk_frozen BK446.out 1) | (go_at_call 9; (with_reducible refine (lex_All.calls (hG := x71_9) a0 t447 t450 t451 _ A6.out).mono ?_); rintro e w15 ⟨v448, rfl, ho0, hb⟩; have n0_ := Aside0.mk (Kd.R_elder' x71_7 (Kd.R_base ho0) hb); have n1_ := Aside0.mk (Kd.R_elder' x71_8 (Kd.R_base ho0) hb); have n2_ := Aside0.mk (Kd.R_lower (Kd.R_new' (Kd.R_new' ho0 (Kd.R_lt x71_7)) (Kd.R_lt x71_8)) (below_size x71_11)); have n3_ := Aside0.mk (blk_below (g := gb440) (o := .cells #[.int .i64 t438, .int .i64 t439] 25 (0, 0)) (by (with_reducible repeat first | apply blk_drewN | apply blk_drew | apply blk_alloc); refine blk_far ?_ NB440_446.out _; (with_reducible repeat first | apply blk_drewN | apply blk_drew | apply blk_alloc); refine blk_far ?_ NB440_446.out _; (with_reducible repeat first | apply blk_drewN | apply blk_drew | apply blk_alloc); exact BK440.out) hb); have n4_ := Aside0.mk (blk_below (g := gb446) (o := .cells #[.int .i64 t444, .int .i64 t445] 25 (0, 0)) (by (with_reducible repeat first | apply blk_drewN | apply blk_drew | apply blk_alloc); refine blk_put (cs := #[.int .i64 t444, .int .i64 0]) ?_ 1 _ rfl; (with_reducible repeat first | apply blk_drewN | apply blk_drew | apply blk_alloc); refine blk_put (cs := #[.int .i64 0, .int .i64 0]) ?_ 0 _ rfl; (with_reducible repeat first | apply blk_drewN | apply blk_drew | apply blk_alloc); exact BK446.out) hb); have n5_ := Aside0.mk (below_step x71_11 hb); clear HO437; clear HO443; clear BK440; clear BK446; clear HB; have HO437 := n0_; have HO443 := n1_; have HO449 := n2_; have BK440 := n3_; have BK446 := n4_; have HB := n5_; clear n0_ n1_ n2_ n3_ n4_ n5_) | ((with_reducible refine gate_dst (N := 10) rfl ?_); (try (refine gate_guard (by rfl) ?_; dsimp only)); refine box_event ?hg (N := 10) ?hd (cs := #[.int .i64 0, .int .i64 0]) (t := 25) ?hr ?_; (case hd => rfl); (case hg => rfl); (case hr => first | (go_simp; done) | (go_simp; rfl)); intro gb452 hg w16 hbox hb; have n0_ := Aside0.mk (Kd.R_below x71_15 hb); have n1_ := Aside0.mk (Kd.R_below x71_16 hb); have n2_ := Aside0.mk (Kd.R_below (by (with_reducible repeat (first | apply Kd.R_alloc | apply Kd.R_drewN | apply Kd.R_drew)); exact HO449.out) hb); have n3_ := Aside0.mk (blk_below (g := gb440) (o := .cells #[.int .i64 t438, .int .i64 t439] 25 (0, 0)) x71_21 hb); have n4_ := Aside0.mk (blk_below (g := gb446) (o := .cells #[.int .i64 t444, .int .i64 t445] 25 (0, 0)) x71_22 hb); have n5_ := Aside0.mk (below_step x71_11 hb); have n6_ := Aside0.mk (hbox); have n7_ := Aside0.mk ((by rw [hg]; exact (below_size x71_11) : w.heap.size ≤ gb452)); have n8_ := Aside0.mk ((by rw [hg]; exact (below_size x71_11) : w.heap.size ≤ gb452)); have n9_ := Aside0.mk ((by rw [hg]; exact Nat.ne_of_lt (blk_lt (g := gb440) (o := .cells #[.int .i64 t438, .int .i64 t439] 25 (0, 0)) x71_21) : gb440 ≠ gb452)); have n10_ := Aside0.mk ((by rw [hg]; exact Nat.ne_of_gt (blk_lt (g := gb440) (o := .cells #[.int .i64 t438, .int .i64 t439] 25 (0, 0)) x71_21) : gb452 ≠ gb440)); have n11_ := Aside0.mk ((by rw [hg]; exact Nat.ne_of_lt (blk_lt (g := gb446) (o := .cells #[.int .i64 t444, .int .i64 t445] 25 (0, 0)) x71_22) : gb446 ≠ gb452)); have n12_ := Aside0.mk ((by rw [hg]; exact Nat.ne_of_gt (blk_lt (g := gb446) (o := .cells #[.int .i64 t444, .int .i64 t445] 25 (0, 0)) x71_22) : gb452 ≠ gb446)); clear HO437; clear HO443; clear HO449; clear BK440; clear BK446; clear HB; have HO437 := n0_; have HO443 := n1_; have HO449 := n2_; have BK440 := n3_; have BK446 := n4_; have HB := n5_; have BK452 := n6_; have GW452 := n7_; have GE452 := n8_; have NB440_452 := n9_; have NB452_440 := n10_; have NB446_452 := n11_; have NB452_446 := n12_; clear n0_ n1_ n2_ n3_ n4_ n5_ n6_ n7_ n8_ n9_ n10_ n11_ n12_; clear hb hbox hg; have hnb17 := NB452_440.out; have hnc17 := NB440_452.out; have hnb18 := NB452_446.out; have hnc18 := NB446_452.out; have hcz19_0 : w16.cell? ⟨gb452, 0, none⟩ = some (.int .i64 0) := (blk_cell BK452.out 0).trans rfl; have hcz19_1 : w16.cell? ⟨gb452, 1, none⟩ = some (.int .i64 0) := (blk_cell BK452.out 1).trans rfl; have hfz19_0 := blk_frozen BK452.out 0; have hfz19_1 := blk_frozen BK452.out 1))
  repeat (go_quiet (fail); try go_wp2)
  (try simp only [Act.put, List.setIfInBounds_toArray, List.set_cons_zero, List.set_cons_succ])
  go_cut [53] (fun v53 wc => ∃ (kq : Nat) (x53_6 : Bool), v53 = .bool x53_6 ∧ Aside0 (casketlaw11_LexReads.j0 kq a0 a1 t435 t441 t447 x53_6 = some r) ∧ Aside0 (kq ≤ k) ∧ Aside0 (Kd.R k30 30 wc w.heap.size (fun k_ => some k_ ≠ (v442 : Value).ownBlock ∧ some k_ ≠ (v448 : Value).ownBlock) v436 t435) ∧ Aside0 (Kd.R k30 30 wc w.heap.size (fun k_ => some k_ ≠ (v436 : Value).ownBlock ∧ some k_ ≠ (v448 : Value).ownBlock) v442 t441) ∧ Aside0 (Kd.R k30 30 wc w.heap.size (fun k_ => some k_ ≠ (v436 : Value).ownBlock ∧ some k_ ≠ (v442 : Value).ownBlock) v448 t447) ∧ Aside0 (wc.heap[gb440]? = some (.cells #[.int .i64 t438, .int .i64 t439] 25 (0, 0))) ∧ Aside0 (wc.heap[gb446]? = some (.cells #[.int .i64 t444, .int .i64 t445] 25 (0, 0))) ∧ Aside0 (wc.heap[gb452]? = some (.cells #[.int .i64 t450, .int .i64 t451] 25 (0, 0))) ∧ Aside0 (Below w.heap.size w wc))
  case first =>
   have H := HC7.out
   clear HC7
   by_cases c20 : (t441.length : Int) = (t435.length : Int)
   ·rw [if_pos c20] at H
    have c20b0 := beq_iff_eq.mpr c20
    have c20b1 := bne_eq_false_iff_eq.mpr c20
    have c20b2 : (t441.length == t435.length) = true := by first | simpa using c20 | (simp at c20 ⊢; omega)
    clear c20
    (first | rw [c20b0] | (simp only [i64_w, i32_w]; rw [c20b0]) | skip)
    by_cases c21 : (t447.length : Int) = (t435.length : Int)
    ·rw [if_pos c21] at H
     have c21b0 := beq_iff_eq.mpr c21
     have c21b1 := bne_eq_false_iff_eq.mpr c21
     have c21b2 : (t447.length == t435.length) = true := by first | simpa using c21 | (simp at c21 ⊢; omega)
     clear c21
     by_cases c22 : (!(t444 == t438) || (!(t445 == t439))) = true
     ·rw [if_pos c22] at H
      have c22b0 : (!(t444 == t438) || (!(t445 == t439))) = true := c22
      clear c22
      have H' := Aside0.mk H
      clear H
      obtain ⟨Ao23, co23, eo23⟩ := Kd.R_slice HO443.out
      subst eo23
      obtain ⟨Ao24, co24, eo24⟩ := Kd.R_slice HO437.out
      subst eo24
      obtain ⟨Ao25, co25, eo25⟩ := Kd.R_slice HO449.out
      subst eo25
      have hnb26 := NB446_440.out
      have hnc26 := NB440_446.out
      have hnb27 := NB446_452.out
      have hnc27 := NB452_446.out
      have hcz28_0 : w16.cell? ⟨gb446, 0, none⟩ = some (.int .i64 t444) := (blk_cell BK446.out 0).trans rfl
      have hcz28_1 : w16.cell? ⟨gb446, 1, none⟩ = some (.int .i64 t445) := (blk_cell BK446.out 1).trans rfl
      have hfz28_0 := blk_frozen BK446.out 0
      have hfz28_1 := blk_frozen BK446.out 1
      have hnb29 := NB440_452.out
      have hnc29 := NB452_440.out
      have hcz30_0 : w16.cell? ⟨gb440, 0, none⟩ = some (.int .i64 t438) := (blk_cell BK440.out 0).trans rfl
      have hcz30_1 : w16.cell? ⟨gb440, 1, none⟩ = some (.int .i64 t439) := (blk_cell BK440.out 1).trans rfl
      have hfz30_0 := blk_frozen BK440.out 0
      have hfz30_1 := blk_frozen BK440.out 1
      go_wp2
      repeat (go_quiet (fail); try go_wp2)
      go_meet
      case rel => exact ⟨_, (true), x71_26, H', ⟨x71_27⟩, ⟨x71_3⟩, ⟨x71_4⟩, ⟨x71_5⟩, ⟨x71_1⟩, ⟨x71_2⟩, ⟨x71_0⟩, ⟨x71_10⟩⟩
     ·rw [if_neg c22] at H
      have c22b0 : (!(t444 == t438) || (!(t445 == t439))) = false := by simpa using c22
      clear c22
      have H' := Aside0.mk H
      clear H
      obtain ⟨Ao31, co31, eo31⟩ := Kd.R_slice HO443.out
      subst eo31
      obtain ⟨Ao32, co32, eo32⟩ := Kd.R_slice HO437.out
      subst eo32
      obtain ⟨Ao33, co33, eo33⟩ := Kd.R_slice HO449.out
      subst eo33
      have hnb34 := NB446_440.out
      have hnc34 := NB440_446.out
      have hnb35 := NB446_452.out
      have hnc35 := NB452_446.out
      have hcz36_0 : w16.cell? ⟨gb446, 0, none⟩ = some (.int .i64 t444) := (blk_cell BK446.out 0).trans rfl
      have hcz36_1 : w16.cell? ⟨gb446, 1, none⟩ = some (.int .i64 t445) := (blk_cell BK446.out 1).trans rfl
      have hfz36_0 := blk_frozen BK446.out 0
      have hfz36_1 := blk_frozen BK446.out 1
      have hnb37 := NB440_452.out
      have hnc37 := NB452_440.out
      have hcz38_0 : w16.cell? ⟨gb440, 0, none⟩ = some (.int .i64 t438) := (blk_cell BK440.out 0).trans rfl
      have hcz38_1 : w16.cell? ⟨gb440, 1, none⟩ = some (.int .i64 t439) := (blk_cell BK440.out 1).trans rfl
      have hfz38_0 := blk_frozen BK440.out 0
      have hfz38_1 := blk_frozen BK440.out 1
      have hcz39_0 : w16.cell? ⟨gb452, 0, none⟩ = some (.int .i64 0) := (blk_cell BK452.out 0).trans rfl
      have hcz39_1 : w16.cell? ⟨gb452, 1, none⟩ = some (.int .i64 0) := (blk_cell BK452.out 1).trans rfl
      have hfz39_0 := blk_frozen BK452.out 0
      have hfz39_1 := blk_frozen BK452.out 1
      go_wp2
      repeat (go_quiet (fail); try go_wp2)
      go_meet
      case rel => exact ⟨_, ((!(t450 == t438) || (!(t451 == t439)))), x71_26, H', ⟨x71_27⟩, ⟨x71_3⟩, ⟨x71_4⟩, ⟨x71_5⟩, ⟨x71_1⟩, ⟨x71_2⟩, ⟨x71_0⟩, ⟨x71_10⟩⟩
    ·rw [if_neg c21] at H
     have c21b0 := beq_eq_false_iff_ne.mpr c21
     have c21b1 := bne_iff_ne.mpr c21
     have c21b2 : (t447.length == t435.length) = false := by first | simpa using c21 | (simp at c21 ⊢; omega)
     have H' := Aside0.mk H
     clear H
     obtain ⟨Ao40, co40, eo40⟩ := Kd.R_slice HO443.out
     subst eo40
     obtain ⟨Ao41, co41, eo41⟩ := Kd.R_slice HO437.out
     subst eo41
     obtain ⟨Ao42, co42, eo42⟩ := Kd.R_slice HO449.out
     subst eo42
     go_wp2
     repeat (go_quiet (fail); try go_wp2)
     go_meet
     case rel => exact ⟨_, (true), x71_26, H', ⟨x71_27⟩, ⟨x71_3⟩, ⟨x71_4⟩, ⟨x71_5⟩, ⟨x71_1⟩, ⟨x71_2⟩, ⟨x71_0⟩, ⟨x71_10⟩⟩
   ·rw [if_neg c20] at H
    have c20b0 := beq_eq_false_iff_ne.mpr c20
    have c20b1 := bne_iff_ne.mpr c20
    have c20b2 : (t441.length == t435.length) = false := by first | simpa using c20 | (simp at c20 ⊢; omega)
    (first | rw [c20b0] | (simp only [i64_w, i32_w]; rw [c20b0]) | skip)
    have H' := Aside0.mk H
    clear H
    obtain ⟨Ao43, co43, eo43⟩ := Kd.R_slice HO443.out
    subst eo43
    obtain ⟨Ao44, co44, eo44⟩ := Kd.R_slice HO437.out
    subst eo44
    go_wp2
    repeat (go_quiet (fail); try go_wp2)
    go_meet
    case rel => exact ⟨_, (true), x71_26, H', ⟨x71_27⟩, ⟨x71_3⟩, ⟨x71_4⟩, ⟨x71_5⟩, ⟨x71_1⟩, ⟨x71_2⟩, ⟨x71_0⟩, ⟨x71_10⟩⟩
  case rest =>
   clear HC7
   obtain ⟨kq, x53_6, rfl, HA, HJ6, HO_5, HO_7, HO_9, BK440, BK446, BK452, HB⟩ := hcut
   cases kq with
   | zero => exact absurd HA.out (by simp [casketlaw11_LexReads.j0])
   | succ kj6 =>
    have H := HA.out
    clear HA
    simp only [casketlaw11_LexReads.j0] at H
    by_cases c45 : x53_6 = true
    ·subst c45
     rw [if_pos rfl] at H
     obtain rfl := Option.some.inj H
     go_wp2
     repeat (go_quiet (fail); try go_wp2)
     go_ret
     exact ⟨x71_24, x71_10⟩
    ·replace c45 := Bool.eq_false_iff.mpr c45
     subst c45
     rw [if_neg (show ¬ (false = true) by decide)] at H
     have H' := Aside0.mk H
     clear H
     go_wp2
     repeat (go_quiet (fail); try go_wp2)
     go_loopg [11] kj6 (fun kq v11 w' => ∃ (x7_2 : List (S30)) (x9_2 : List (S30)) (x11_2 : Int), v11 = .int .i64 x11_2 ∧ Aside0 (casketlaw11_LexReads.l0 kq a0 a1 t435 x7_2 x9_2 x11_2 = some r) ∧ Aside0 (kq ≤ kj6) ∧ Aside0 (Kd.R k30 30 w' w.heap.size (fun k_ => some k_ ≠ (v442 : Value).ownBlock ∧ some k_ ≠ (v448 : Value).ownBlock) v436 t435) ∧ Aside0 (Kd.R k30 30 w' w.heap.size (fun k_ => some k_ ≠ (v436 : Value).ownBlock ∧ some k_ ≠ (v448 : Value).ownBlock) v442 x7_2) ∧ Aside0 (Kd.R k30 30 w' w.heap.size (fun k_ => some k_ ≠ (v436 : Value).ownBlock ∧ some k_ ≠ (v442 : Value).ownBlock) v448 x9_2) ∧ Aside0 (w'.heap[gb440]? = some (.cells #[.int .i64 t438, .int .i64 t439] 25 (0, 0))) ∧ Aside0 (w'.heap[gb446]? = some (.cells #[.int .i64 t444, .int .i64 t445] 25 (0, 0))) ∧ Aside0 (w'.heap[gb452]? = some (.cells #[.int .i64 t450, .int .i64 t451] 25 (0, 0))) ∧ Aside0 (Below w.heap.size w w'))
     case atStart => exact ⟨(t441), (t447), (0), x71_26, H', ⟨Nat.le_refl _⟩, ⟨x71_18⟩, ⟨x71_19⟩, ⟨x71_20⟩, ⟨x71_21⟩, ⟨x71_22⟩, ⟨x71_23⟩, ⟨x71_10⟩⟩
     case round =>
      clear H'
      obtain ⟨x7_2, x9_2, x11_2, rfl, HA, HK2, HO_5, HO_7, HO_9, BK440, BK446, BK452, HB⟩ := hrel
      cases gk with
      | zero => exact absurd HA.out (by simp [casketlaw11_LexReads.l0])
      | succ k2 =>
       have H := HA.out
       clear HA
       simp only [casketlaw11_LexReads.l0] at H
       by_cases c46 : x11_2 < (t435.length : Int)
       ·rw [if_pos c46] at H
        have c46b0 := decide_eq_true c46
        clear c46
        by_cases c47 : 0 ≤ x11_2
        ·rw [if_pos c47] at H
         have c47b0 := decide_eq_true c47
         clear c47
         by_cases c48 : x11_2 < (x7_2.length : Int)
         ·rw [if_pos c48] at H
          have c48b0 := decide_eq_true c48
          clear c48
          by_cases c49 : (!(((rd_T30 x7_2 x11_2).f0) == ((rd_T30 t435 x11_2).f0)) || (!(((rd_T30 x7_2 x11_2).f1) == ((rd_T30 t435 x11_2).f1)) || (!((((rd_T30 x7_2 x11_2).f2).toList) == (((rd_T30 t435 x11_2).f2).toList)) || (!(((rd_T30 x7_2 x11_2).f3) == ((rd_T30 t435 x11_2).f3)) || (!(((rd_T30 x7_2 x11_2).f4) == ((rd_T30 t435 x11_2).f4))))))) = true
          ·rw [if_pos c49] at H
           have c49b0 : (!(((rd_T30 x7_2 x11_2).f0) == ((rd_T30 t435 x11_2).f0)) || (!(((rd_T30 x7_2 x11_2).f1) == ((rd_T30 t435 x11_2).f1)) || (!((((rd_T30 x7_2 x11_2).f2).toList) == (((rd_T30 t435 x11_2).f2).toList)) || (!(((rd_T30 x7_2 x11_2).f3) == ((rd_T30 t435 x11_2).f3)) || (!(((rd_T30 x7_2 x11_2).f4) == ((rd_T30 t435 x11_2).f4))))))) = true := c49
           clear c49
           obtain rfl := Option.some.inj H
           obtain ⟨Ao50, co50, eo50⟩ := Kd.R_slice HO_5.out
           subst eo50
           obtain ⟨Ao51, co51, eo51⟩ := Kd.R_slice HO_7.out
           subst eo51
           have p453 : 0 ≤ (x11_2 : Int) := of_decide_eq_true x71_25
           have q453 : x11_2 < (x7_2.length : Int) := of_decide_eq_true x71_25
           obtain ⟨ad453, e453, hx453_0, hx453_1, hx453_2, hx453_3, hx453_4⟩ := at_T30 (Kd.R_reads' HO_7.out).2.2 x11_2 p453 q453
           cases e453
           replace p453 := eq_true p453
           replace q453 := eq_true q453
           have p454 : 0 ≤ (x11_2 : Int) := of_decide_eq_true x71_25
           have q454 : x11_2 < (t435.length : Int) := of_decide_eq_true x71_25
           obtain ⟨ad454, e454, hx454_0, hx454_1, hx454_2, hx454_3, hx454_4⟩ := at_T30 (Kd.R_reads' HO_5.out).2.2 x11_2 p454 q454
           cases e454
           replace p454 := eq_true p454
           replace q454 := eq_true q454
           go_wp2
           repeat (go_quiet (fail); try go_wp2)
           go_ret
           exact ⟨x71_24, x71_10⟩
          ·rw [if_neg c49] at H
           have c49b0 : (!(((rd_T30 x7_2 x11_2).f0) == ((rd_T30 t435 x11_2).f0)) || (!(((rd_T30 x7_2 x11_2).f1) == ((rd_T30 t435 x11_2).f1)) || (!((((rd_T30 x7_2 x11_2).f2).toList) == (((rd_T30 t435 x11_2).f2).toList)) || (!(((rd_T30 x7_2 x11_2).f3) == ((rd_T30 t435 x11_2).f3)) || (!(((rd_T30 x7_2 x11_2).f4) == ((rd_T30 t435 x11_2).f4))))))) = false := by simpa using c49
           clear c49
           by_cases c52 : x11_2 < (x9_2.length : Int)
           ·rw [if_pos c52] at H
            have c52b0 := decide_eq_true c52
            clear c52
            by_cases c53 : (!(((rd_T30 x9_2 x11_2).f0) == ((rd_T30 t435 x11_2).f0)) || (!(((rd_T30 x9_2 x11_2).f1) == ((rd_T30 t435 x11_2).f1)) || (!((((rd_T30 x9_2 x11_2).f2).toList) == (((rd_T30 t435 x11_2).f2).toList)) || (!(((rd_T30 x9_2 x11_2).f3) == ((rd_T30 t435 x11_2).f3)) || (!(((rd_T30 x9_2 x11_2).f4) == ((rd_T30 t435 x11_2).f4))))))) = true
            ·rw [if_pos c53] at H
             have c53b0 : (!(((rd_T30 x9_2 x11_2).f0) == ((rd_T30 t435 x11_2).f0)) || (!(((rd_T30 x9_2 x11_2).f1) == ((rd_T30 t435 x11_2).f1)) || (!((((rd_T30 x9_2 x11_2).f2).toList) == (((rd_T30 t435 x11_2).f2).toList)) || (!(((rd_T30 x9_2 x11_2).f3) == ((rd_T30 t435 x11_2).f3)) || (!(((rd_T30 x9_2 x11_2).f4) == ((rd_T30 t435 x11_2).f4))))))) = true := c53
             clear c53
             obtain rfl := Option.some.inj H
             obtain ⟨Ao54, co54, eo54⟩ := Kd.R_slice HO_5.out
             subst eo54
             obtain ⟨Ao55, co55, eo55⟩ := Kd.R_slice HO_7.out
             subst eo55
             have p453 : 0 ≤ (x11_2 : Int) := of_decide_eq_true x71_25
             have q453 : x11_2 < (x7_2.length : Int) := of_decide_eq_true x71_25
             obtain ⟨ad453, e453, hx453_0, hx453_1, hx453_2, hx453_3, hx453_4⟩ := at_T30 (Kd.R_reads' HO_7.out).2.2 x11_2 p453 q453
             cases e453
             replace p453 := eq_true p453
             replace q453 := eq_true q453
             have p454 : 0 ≤ (x11_2 : Int) := of_decide_eq_true x71_25
             have q454 : x11_2 < (t435.length : Int) := of_decide_eq_true x71_25
             obtain ⟨ad454, e454, hx454_0, hx454_1, hx454_2, hx454_3, hx454_4⟩ := at_T30 (Kd.R_reads' HO_5.out).2.2 x11_2 p454 q454
             cases e454
             replace p454 := eq_true p454
             replace q454 := eq_true q454
             obtain ⟨Ao56, co56, eo56⟩ := Kd.R_slice HO_9.out
             subst eo56
             have p455 : 0 ≤ (x11_2 : Int) := of_decide_eq_true x71_25
             have q455 : x11_2 < (x9_2.length : Int) := of_decide_eq_true x71_25
             obtain ⟨ad455, e455, hx455_0, hx455_1, hx455_2, hx455_3, hx455_4⟩ := at_T30 (Kd.R_reads' HO_9.out).2.2 x11_2 p455 q455
             cases e455
             replace p455 := eq_true p455
             replace q455 := eq_true q455
             have p456 : 0 ≤ (x11_2 : Int) := of_decide_eq_true x71_25
             have q456 : x11_2 < (t435.length : Int) := of_decide_eq_true x71_25
             obtain ⟨ad456, e456, hx456_0, hx456_1, hx456_2, hx456_3, hx456_4⟩ := at_T30 (Kd.R_reads' HO_5.out).2.2 x11_2 p456 q456
             obtain rfl : ad454 = ad456 := (by injection e456)
             replace p456 := eq_true p456
             replace q456 := eq_true q456
             go_wp2
             repeat (go_quiet (fail); try go_wp2)
             go_ret
             exact ⟨x71_24, x71_10⟩
            ·rw [if_neg c53] at H
             have c53b0 : (!(((rd_T30 x9_2 x11_2).f0) == ((rd_T30 t435 x11_2).f0)) || (!(((rd_T30 x9_2 x11_2).f1) == ((rd_T30 t435 x11_2).f1)) || (!((((rd_T30 x9_2 x11_2).f2).toList) == (((rd_T30 t435 x11_2).f2).toList)) || (!(((rd_T30 x9_2 x11_2).f3) == ((rd_T30 t435 x11_2).f3)) || (!(((rd_T30 x9_2 x11_2).f4) == ((rd_T30 t435 x11_2).f4))))))) = false := by simpa using c53
             clear c53
             obtain ⟨y457, hy457⟩ : ∃ y_ : List (S30), y_ = (x7_2.set (x11_2 : Int).toNat (⟨201, 0, (⟨#[]⟩ : ByteArray), 0, 0⟩ : S30)) := ⟨_, rfl⟩
             replace H : (casketlaw11_LexReads.l0 k2 a0 a1 t435 y457 (x9_2.set (x11_2 : Int).toNat (⟨202, 0, (⟨#[]⟩ : ByteArray), 0, 0⟩ : S30)) (wrap64 (x11_2 + 1))) = some r := by first | (rw [hy457]; with_reducible exact H) | (have H2_ := (Option.bind_some _ _).symm.trans H; rw [hy457]; with_reducible exact H2_) | (have H2_ := (Option.bind_some _ _).symm.trans H; with_reducible exact H2_) | with_reducible exact H | (rw [hy457]; exact H) | exact H
             have Ny457 := Aside0.mk hy457
             clear hy457
             obtain ⟨y458, hy458⟩ : ∃ y_ : List (S30), y_ = (x9_2.set (x11_2 : Int).toNat (⟨202, 0, (⟨#[]⟩ : ByteArray), 0, 0⟩ : S30)) := ⟨_, rfl⟩
             replace H : (casketlaw11_LexReads.l0 k2 a0 a1 t435 y457 y458 (wrap64 (x11_2 + 1))) = some r := by first | (rw [hy458]; with_reducible exact H) | (have H2_ := (Option.bind_some _ _).symm.trans H; rw [hy458]; with_reducible exact H2_) | (have H2_ := (Option.bind_some _ _).symm.trans H; with_reducible exact H2_) | with_reducible exact H | (rw [hy458]; exact H) | exact H
             have Ny458 := Aside0.mk hy458
             clear hy458
             have H' := Aside0.mk H
             clear H
             obtain ⟨Ao59, co59, eo59⟩ := Kd.R_slice HO_5.out
             subst eo59
             obtain ⟨Ao60, co60, eo60⟩ := Kd.R_slice HO_7.out
             subst eo60
             have p453 : 0 ≤ (x11_2 : Int) := of_decide_eq_true x71_25
             have q453 : x11_2 < (x7_2.length : Int) := of_decide_eq_true x71_25
             obtain ⟨ad453, e453, hx453_0, hx453_1, hx453_2, hx453_3, hx453_4⟩ := at_T30 (Kd.R_reads' HO_7.out).2.2 x11_2 p453 q453
             cases e453
             replace p453 := eq_true p453
             replace q453 := eq_true q453
             have p454 : 0 ≤ (x11_2 : Int) := of_decide_eq_true x71_25
             have q454 : x11_2 < (t435.length : Int) := of_decide_eq_true x71_25
             obtain ⟨ad454, e454, hx454_0, hx454_1, hx454_2, hx454_3, hx454_4⟩ := at_T30 (Kd.R_reads' HO_5.out).2.2 x11_2 p454 q454
             cases e454
             replace p454 := eq_true p454
             replace q454 := eq_true q454
             obtain ⟨Ao61, co61, eo61⟩ := Kd.R_slice HO_9.out
             subst eo61
             have p455 : 0 ≤ (x11_2 : Int) := of_decide_eq_true x71_25
             have q455 : x11_2 < (x9_2.length : Int) := of_decide_eq_true x71_25
             obtain ⟨ad455, e455, hx455_0, hx455_1, hx455_2, hx455_3, hx455_4⟩ := at_T30 (Kd.R_reads' HO_9.out).2.2 x11_2 p455 q455
             cases e455
             replace p455 := eq_true p455
             replace q455 := eq_true q455
             have p456 : 0 ≤ (x11_2 : Int) := of_decide_eq_true x71_25
             have q456 : x11_2 < (t435.length : Int) := of_decide_eq_true x71_25
             obtain ⟨ad456, e456, hx456_0, hx456_1, hx456_2, hx456_3, hx456_4⟩ := at_T30 (Kd.R_reads' HO_5.out).2.2 x11_2 p456 q456
             obtain rfl : ad454 = ad456 := (by injection e456)
             replace p456 := eq_true p456
             replace q456 := eq_true q456
             have p57 : 0 ≤ (x11_2 : Int) := of_decide_eq_true x71_25
             have q57 : (x11_2 : Int) < ((x7_2.length : Int) : Int) := of_decide_eq_true x71_25
             obtain ⟨go57, co57, eo57, gb57, gl57, cl57, HG57⟩ := Kd.R_form HO_7.out (by omega)
             (first | cases eo57 | (injection eo57 with ea_ en_ ec_; (first | subst ea_ | (injection ea_ with ea_; subst ea_)); subst ec_; clear en_))
             have GB57 := Aside0.mk gb57
             have GG57 := Aside0.mk HG57
             clear gb57 gl57 HG57
             (first | simp only [add_plain] at hx453_0 | skip)
             (first | simp only [add_plain] at hx453_1 | skip)
             (first | simp only [add_plain] at hx453_2 | skip)
             (first | simp only [add_plain] at hx453_3 | skip)
             (first | simp only [add_plain] at hx453_4 | skip)
             obtain ⟨ce57, hcl57, hM57, hcc57, hfr57⟩ := Kd.R_elem HO_7.out z30 (x11_2 : Int) p57 q57
             obtain rfl := k30_openM hM57
             have hx57_0 : wr.cell? ⟨go57, (x11_2 : Int).toNat * 5, none⟩ = some (.int .i64 ((rd_T30 x7_2 x11_2).f0)) := hcc57 0 _ rfl
             have hx57_1 : wr.cell? ⟨go57, (x11_2 : Int).toNat * 5 + 1, none⟩ = some (.int .i64 ((rd_T30 x7_2 x11_2).f1)) := hcc57 1 _ rfl
             have hx57_2 : wr.cell? ⟨go57, (x11_2 : Int).toNat * 5 + 2, none⟩ = some (.string ((rd_T30 x7_2 x11_2).f2)) := hcc57 2 _ rfl
             have hx57_3 : wr.cell? ⟨go57, (x11_2 : Int).toNat * 5 + 3, none⟩ = some (.int .i64 ((rd_T30 x7_2 x11_2).f3)) := hcc57 3 _ rfl
             have hx57_4 : wr.cell? ⟨go57, (x11_2 : Int).toNat * 5 + 4, none⟩ = some (.int .u64 ((rd_T30 x7_2 x11_2).f4)) := hcc57 4 _ rfl
             have hf57_0 : wr.frozen? ⟨go57, (x11_2 : Int).toNat * 5, none⟩ = false := hfr57 0
             have hf57_1 : wr.frozen? ⟨go57, (x11_2 : Int).toNat * 5 + 1, none⟩ = false := hfr57 1
             have hf57_2 : wr.frozen? ⟨go57, (x11_2 : Int).toNat * 5 + 2, none⟩ = false := hfr57 2
             have hf57_3 : wr.frozen? ⟨go57, (x11_2 : Int).toNat * 5 + 3, none⟩ = false := hfr57 3
             have hf57_4 : wr.frozen? ⟨go57, (x11_2 : Int).toNat * 5 + 4, none⟩ = false := hfr57 4
             clear hcl57 hcc57 hfr57 hM57
             replace p57 := eq_true p57
             replace q57 := eq_true q57
             have HX62 := Aside0.mk (show Kd.R k30 30 wr w.heap.size (fun k_ => some k_ ≠ (.slice (some ad454) t435.length co59 : Value).ownBlock ∧ some k_ ≠ (.slice (some ad455) x9_2.length co61 : Value).ownBlock) (.slice (some ⟨go57, 0, none⟩) x7_2.length co60) x7_2 from x71_19)
             obtain ⟨ce62, hcl62, hM62, hcc62, hfr62⟩ := Kd.R_elem HX62.out z30 (x11_2 : Int) (of_decide_eq_true x71_25) (by have h_ : (x11_2 : Int) < ((x7_2.length : Int) : Int) := of_decide_eq_true x71_25; first | exact h_ | (have e_ := (Kd.R_reads' HO_7.out).1; omega) | simpa using h_)
             obtain rfl := k30_openM hM62
             have HP62 := Kd.R_seg HX62.out (x11_2 : Int) (of_decide_eq_true x71_25) (by have h_ : (x11_2 : Int) < ((x7_2.length : Int) : Int) := of_decide_eq_true x71_25; first | exact h_ | (have e_ := (Kd.R_reads' HO_7.out).1; omega) | simpa using h_) (seg := [.int .i64 201, .int .i64 0, .string (⟨#[]⟩ : ByteArray), .int .i64 0, .int .u64 0]) (j := 0) hcl62 hcc62 (show 5 ≤ 5 from by decide) (x' := (⟨201, 0, (⟨#[]⟩ : ByteArray), 0, 0⟩ : S30)) (k30_mkM _ _ _ (⟨201, 0, (⟨#[]⟩ : ByteArray), 0, 0⟩ : S30) ) (fun _ hk => hk)
             have hx62_0 := hcc62 0 _ rfl
             (try simp only [show (k30).sz = 5 from rfl, Nat.mul_one, Nat.add_zero] at hx62_0)
             have hf62_0 := hfr62 0
             (try simp only [show (k30).sz = 5 from rfl, Nat.mul_one, Nat.add_zero] at hf62_0)
             have hx62_1 := hcc62 1 _ rfl
             (try simp only [show (k30).sz = 5 from rfl, Nat.mul_one, Nat.add_zero] at hx62_1)
             have hf62_1 := hfr62 1
             (try simp only [show (k30).sz = 5 from rfl, Nat.mul_one, Nat.add_zero] at hf62_1)
             have hx62_2 := hcc62 2 _ rfl
             (try simp only [show (k30).sz = 5 from rfl, Nat.mul_one, Nat.add_zero] at hx62_2)
             have hf62_2 := hfr62 2
             (try simp only [show (k30).sz = 5 from rfl, Nat.mul_one, Nat.add_zero] at hf62_2)
             have hx62_3 := hcc62 3 _ rfl
             (try simp only [show (k30).sz = 5 from rfl, Nat.mul_one, Nat.add_zero] at hx62_3)
             have hf62_3 := hfr62 3
             (try simp only [show (k30).sz = 5 from rfl, Nat.mul_one, Nat.add_zero] at hf62_3)
             have hx62_4 := hcc62 4 _ rfl
             (try simp only [show (k30).sz = 5 from rfl, Nat.mul_one, Nat.add_zero] at hx62_4)
             have hf62_4 := hfr62 4
             (try simp only [show (k30).sz = 5 from rfl, Nat.mul_one, Nat.add_zero] at hf62_4)
             clear hcl62 hcc62 hfr62 hM62
             try go_wp2
             repeat (go_quiet (fail); try go_wp2_with (first | ((with_reducible refine gate_store (t := 30) (p := 86) rfl ?_); (try (rw [drewN_self wr]; generalize hq_ : World.drewN wr _ = wr; have n0_ := Aside0.mk (Kd.R_at hq_ HO_5.out); have n1_ := Aside0.mk (Kd.R_at hq_ HO_7.out); have n2_ := Aside0.mk (Kd.R_at hq_ HO_9.out); have n3_ := Aside0.mk (blk_at hq_ BK440.out); have n4_ := Aside0.mk (blk_at hq_ BK446.out); have n5_ := Aside0.mk (blk_at hq_ BK452.out); have n6_ := Aside0.mk (below_at hq_ HB.out); clear hq_ HO_5 HO_7 HO_9 BK440 BK446 BK452 HB; have HO_5 := n0_; have HO_7 := n1_; have HO_9 := n2_; have BK440 := n3_; have BK446 := n4_; have BK452 := n5_; have HB := n6_; clear n0_ n1_ n2_ n3_ n4_ n5_ n6_; (try (have HX62 := Aside0.mk (show Kd.R k30 30 wr w.heap.size (fun k_ => some k_ ≠ (.slice (some ad454) t435.length co59 : Value).ownBlock ∧ some k_ ≠ (.slice (some ad455) x9_2.length co61 : Value).ownBlock) (.slice (some ⟨go57, 0, none⟩) x7_2.length co60) x7_2 from x71_19))); (try (obtain ⟨ce62, hcl62, hM62, hcc62, hfr62⟩ := Kd.R_elem HX62.out z30 (x11_2 : Int) (of_decide_eq_true x71_25) (by have h_ : (x11_2 : Int) < ((x7_2.length : Int) : Int) := of_decide_eq_true x71_25; first | exact h_ | (have e_ := (Kd.R_reads' HO_7.out).1; omega) | simpa using h_))); (try (obtain rfl := k30_openM hM62)); (try (have HP62 := Kd.R_seg HX62.out (x11_2 : Int) (of_decide_eq_true x71_25) (by have h_ : (x11_2 : Int) < ((x7_2.length : Int) : Int) := of_decide_eq_true x71_25; first | exact h_ | (have e_ := (Kd.R_reads' HO_7.out).1; omega) | simpa using h_) (seg := [.int .i64 201, .int .i64 0, .string (⟨#[]⟩ : ByteArray), .int .i64 0, .int .u64 0]) (j := 0) hcl62 hcc62 (show 5 ≤ 5 from by decide) (x' := (⟨201, 0, (⟨#[]⟩ : ByteArray), 0, 0⟩ : S30)) (k30_mkM _ _ _ (⟨201, 0, (⟨#[]⟩ : ByteArray), 0, 0⟩ : S30) ) (fun _ hk => hk))); (try (have hx62_0 := hcc62 0 _ rfl)); (try (try simp only [show (k30).sz = 5 from rfl, Nat.mul_one, Nat.add_zero] at hx62_0)); (try (have hf62_0 := hfr62 0)); (try (try simp only [show (k30).sz = 5 from rfl, Nat.mul_one, Nat.add_zero] at hf62_0)); (try (have hx62_1 := hcc62 1 _ rfl)); (try (try simp only [show (k30).sz = 5 from rfl, Nat.mul_one, Nat.add_zero] at hx62_1)); (try (have hf62_1 := hfr62 1)); (try (try simp only [show (k30).sz = 5 from rfl, Nat.mul_one, Nat.add_zero] at hf62_1)); (try (have hx62_2 := hcc62 2 _ rfl)); (try (try simp only [show (k30).sz = 5 from rfl, Nat.mul_one, Nat.add_zero] at hx62_2)); (try (have hf62_2 := hfr62 2)); (try (try simp only [show (k30).sz = 5 from rfl, Nat.mul_one, Nat.add_zero] at hf62_2)); (try (have hx62_3 := hcc62 3 _ rfl)); (try (try simp only [show (k30).sz = 5 from rfl, Nat.mul_one, Nat.add_zero] at hx62_3)); (try (have hf62_3 := hfr62 3)); (try (try simp only [show (k30).sz = 5 from rfl, Nat.mul_one, Nat.add_zero] at hf62_3)); (try (have hx62_4 := hcc62 4 _ rfl)); (try (try simp only [show (k30).sz = 5 from rfl, Nat.mul_one, Nat.add_zero] at hx62_4)); (try (have hf62_4 := hfr62 4)); (try (try simp only [show (k30).sz = 5 from rfl, Nat.mul_one, Nat.add_zero] at hf62_4)); (try (clear hcl62 hcc62 hfr62 hM62)))); refine store_event (t := 30) (p := 86) (v := ?vo_w63) (w1 := (((((wr.setCell ⟨go57, (x11_2 : Int).toNat * 5, none⟩ (.int .i64 201)).setCell ⟨go57, (x11_2 : Int).toNat * 5 + 1, none⟩ (.int .i64 0)).setCell ⟨go57, (x11_2 : Int).toNat * 5 + 2, none⟩ (.string (⟨#[]⟩ : ByteArray))).setCell ⟨go57, (x11_2 : Int).toNat * 5 + 3, none⟩ (.int .i64 0)).setCell ⟨go57, (x11_2 : Int).toNat * 5 + 4, none⟩ (.int .u64 0))) ?hg ?ho ?hn ?hr ?_; (case ho => rfl); (case hg => rfl); (case hn => rfl); (case hr => first | (go_simp; done) | (go_simp; rfl)); intro w63 hw; have hg : wr.grownBy w63 (some go57) := (by rw [hw]; exact HP62.2); have hp_ : Kd.R k30 30 w63 w.heap.size (fun k_ => some k_ ≠ (.slice (some ad454) t435.length co59 : Value).ownBlock ∧ some k_ ≠ (.slice (some ad455) x9_2.length co61 : Value).ownBlock) (.slice (some ⟨go57, 0, none⟩) x7_2.length co60) y457 := (by rw [hw, Ny457.out]; exact HP62.1); clear HP62; have n0_ := Aside0.mk (Kd.R_after (v := (.slice (some ⟨go57, 0, none⟩) x7_2.length co60)) (v1 := (.slice (some ⟨go57, 0, none⟩) x7_2.length co60)) (ok := (fun k_ => some k_ ≠ (.slice (some ad455) x9_2.length co61 : Value).ownBlock)) x71_13 hg (.inl rfl)); have n1_ := Aside0.mk (hp_); have n2_ := Aside0.mk (Kd.R_after (v := (.slice (some ⟨go57, 0, none⟩) x7_2.length co60)) (v1 := (.slice (some ⟨go57, 0, none⟩) x7_2.length co60)) (ok := (fun k_ => some k_ ≠ (.slice (some ad454) t435.length co59 : Value).ownBlock)) x71_20 hg (.inl rfl)); have n3_ := Aside0.mk (blk_grown (g := gb440) (o := .cells #[.int .i64 t438, .int .i64 t439] 25 (0, 0)) x71_21 hg (Kd.R_ne HO_7.out BK440.out (by decide))); have n4_ := Aside0.mk (blk_grown (g := gb446) (o := .cells #[.int .i64 t444, .int .i64 t445] 25 (0, 0)) x71_22 hg (Kd.R_ne HO_7.out BK446.out (by decide))); have n5_ := Aside0.mk (blk_grown (g := gb452) (o := .cells #[.int .i64 t450, .int .i64 t451] 25 (0, 0)) x71_23 hg (Kd.R_ne HO_7.out BK452.out (by decide))); have n6_ := Aside0.mk ((by rw [hw]; exact below_set (below_set (below_set (below_set (below_set (HB.out) GB57.out) GB57.out) GB57.out) GB57.out) GB57.out : Below w.heap.size w w63)); clear HO_5; clear HO_7; clear HO_9; clear BK440; clear BK446; clear BK452; clear HB; have HO_5 := n0_; have HO_7 := n1_; have HO_9 := n2_; have BK440 := n3_; have BK446 := n4_; have BK452 := n5_; have HB := n6_; clear n0_ n1_ n2_ n3_ n4_ n5_ n6_; clear hg hw hp_; have p58 : 0 ≤ (x11_2 : Int) := of_decide_eq_true x71_25; have q58 : (x11_2 : Int) < ((x9_2.length : Int) : Int) := of_decide_eq_true x71_25; obtain ⟨go58, co58, eo58, gb58, gl58, cl58, HG58⟩ := Kd.R_form HO_9.out (by omega); (first | cases eo58 | (injection eo58 with ea_ en_ ec_; (first | subst ea_ | (injection ea_ with ea_; subst ea_)); subst ec_; clear en_)); have GB58 := Aside0.mk gb58; have GG58 := Aside0.mk HG58; clear gb58 gl58 HG58; (first | simp only [add_plain] at hx455_0 | skip); (first | simp only [add_plain] at hx455_1 | skip); (first | simp only [add_plain] at hx455_2 | skip); (first | simp only [add_plain] at hx455_3 | skip); (first | simp only [add_plain] at hx455_4 | skip); obtain ⟨ce58, hcl58, hM58, hcc58, hfr58⟩ := Kd.R_elem HO_9.out z30 (x11_2 : Int) p58 q58; obtain rfl := k30_openM hM58; have hx58_0 : w63.cell? ⟨go58, (x11_2 : Int).toNat * 5, none⟩ = some (.int .i64 ((rd_T30 x9_2 x11_2).f0)) := hcc58 0 _ rfl; have hx58_1 : w63.cell? ⟨go58, (x11_2 : Int).toNat * 5 + 1, none⟩ = some (.int .i64 ((rd_T30 x9_2 x11_2).f1)) := hcc58 1 _ rfl; have hx58_2 : w63.cell? ⟨go58, (x11_2 : Int).toNat * 5 + 2, none⟩ = some (.string ((rd_T30 x9_2 x11_2).f2)) := hcc58 2 _ rfl; have hx58_3 : w63.cell? ⟨go58, (x11_2 : Int).toNat * 5 + 3, none⟩ = some (.int .i64 ((rd_T30 x9_2 x11_2).f3)) := hcc58 3 _ rfl; have hx58_4 : w63.cell? ⟨go58, (x11_2 : Int).toNat * 5 + 4, none⟩ = some (.int .u64 ((rd_T30 x9_2 x11_2).f4)) := hcc58 4 _ rfl; have hf58_0 : w63.frozen? ⟨go58, (x11_2 : Int).toNat * 5, none⟩ = false := hfr58 0; have hf58_1 : w63.frozen? ⟨go58, (x11_2 : Int).toNat * 5 + 1, none⟩ = false := hfr58 1; have hf58_2 : w63.frozen? ⟨go58, (x11_2 : Int).toNat * 5 + 2, none⟩ = false := hfr58 2; have hf58_3 : w63.frozen? ⟨go58, (x11_2 : Int).toNat * 5 + 3, none⟩ = false := hfr58 3; have hf58_4 : w63.frozen? ⟨go58, (x11_2 : Int).toNat * 5 + 4, none⟩ = false := hfr58 4; clear hcl58 hcc58 hfr58 hM58; replace p58 := eq_true p58; replace q58 := eq_true q58; have HX64 := Aside0.mk (show Kd.R k30 30 w63 w.heap.size (fun k_ => some k_ ≠ (.slice (some ad454) t435.length co59 : Value).ownBlock ∧ some k_ ≠ (.slice (some ⟨go57, 0, none⟩) x7_2.length co60 : Value).ownBlock) (.slice (some ⟨go58, 0, none⟩) x9_2.length co61) x9_2 from x71_20); obtain ⟨ce64, hcl64, hM64, hcc64, hfr64⟩ := Kd.R_elem HX64.out z30 (x11_2 : Int) (of_decide_eq_true x71_25) (by have h_ : (x11_2 : Int) < ((x9_2.length : Int) : Int) := of_decide_eq_true x71_25; first | exact h_ | (have e_ := (Kd.R_reads' HO_9.out).1; omega) | simpa using h_); obtain rfl := k30_openM hM64; have HP64 := Kd.R_seg HX64.out (x11_2 : Int) (of_decide_eq_true x71_25) (by have h_ : (x11_2 : Int) < ((x9_2.length : Int) : Int) := of_decide_eq_true x71_25; first | exact h_ | (have e_ := (Kd.R_reads' HO_9.out).1; omega) | simpa using h_) (seg := [.int .i64 202, .int .i64 0, .string (⟨#[]⟩ : ByteArray), .int .i64 0, .int .u64 0]) (j := 0) hcl64 hcc64 (show 5 ≤ 5 from by decide) (x' := (⟨202, 0, (⟨#[]⟩ : ByteArray), 0, 0⟩ : S30)) (k30_mkM _ _ _ (⟨202, 0, (⟨#[]⟩ : ByteArray), 0, 0⟩ : S30) ) (fun _ hk => hk); have hx64_0 := hcc64 0 _ rfl; (try simp only [show (k30).sz = 5 from rfl, Nat.mul_one, Nat.add_zero] at hx64_0); have hf64_0 := hfr64 0; (try simp only [show (k30).sz = 5 from rfl, Nat.mul_one, Nat.add_zero] at hf64_0); have hx64_1 := hcc64 1 _ rfl; (try simp only [show (k30).sz = 5 from rfl, Nat.mul_one, Nat.add_zero] at hx64_1); have hf64_1 := hfr64 1; (try simp only [show (k30).sz = 5 from rfl, Nat.mul_one, Nat.add_zero] at hf64_1); have hx64_2 := hcc64 2 _ rfl; (try simp only [show (k30).sz = 5 from rfl, Nat.mul_one, Nat.add_zero] at hx64_2); have hf64_2 := hfr64 2; (try simp only [show (k30).sz = 5 from rfl, Nat.mul_one, Nat.add_zero] at hf64_2); have hx64_3 := hcc64 3 _ rfl; (try simp only [show (k30).sz = 5 from rfl, Nat.mul_one, Nat.add_zero] at hx64_3); have hf64_3 := hfr64 3; (try simp only [show (k30).sz = 5 from rfl, Nat.mul_one, Nat.add_zero] at hf64_3); have hx64_4 := hcc64 4 _ rfl; (try simp only [show (k30).sz = 5 from rfl, Nat.mul_one, Nat.add_zero] at hx64_4); have hf64_4 := hfr64 4; (try simp only [show (k30).sz = 5 from rfl, Nat.mul_one, Nat.add_zero] at hf64_4); clear hcl64 hcc64 hfr64 hM64) | ((with_reducible refine gate_store (t := 30) (p := 87) rfl ?_); (try (rw [drewN_self w63]; generalize hq_ : World.drewN w63 _ = w63; have n0_ := Aside0.mk (Kd.R_at hq_ HO_5.out); have n1_ := Aside0.mk (Kd.R_at hq_ HO_7.out); have n2_ := Aside0.mk (Kd.R_at hq_ HO_9.out); have n3_ := Aside0.mk (blk_at hq_ BK440.out); have n4_ := Aside0.mk (blk_at hq_ BK446.out); have n5_ := Aside0.mk (blk_at hq_ BK452.out); have n6_ := Aside0.mk (below_at hq_ HB.out); clear hq_ HO_5 HO_7 HO_9 BK440 BK446 BK452 HB; have HO_5 := n0_; have HO_7 := n1_; have HO_9 := n2_; have BK440 := n3_; have BK446 := n4_; have BK452 := n5_; have HB := n6_; clear n0_ n1_ n2_ n3_ n4_ n5_ n6_; (try (have HX64 := Aside0.mk (show Kd.R k30 30 w63 w.heap.size (fun k_ => some k_ ≠ (.slice (some ad454) t435.length co59 : Value).ownBlock ∧ some k_ ≠ (.slice (some ⟨go57, 0, none⟩) x7_2.length co60 : Value).ownBlock) (.slice (some ⟨go58, 0, none⟩) x9_2.length co61) x9_2 from x71_20))); (try (obtain ⟨ce64, hcl64, hM64, hcc64, hfr64⟩ := Kd.R_elem HX64.out z30 (x11_2 : Int) (of_decide_eq_true x71_25) (by have h_ : (x11_2 : Int) < ((x9_2.length : Int) : Int) := of_decide_eq_true x71_25; first | exact h_ | (have e_ := (Kd.R_reads' HO_9.out).1; omega) | simpa using h_))); (try (obtain rfl := k30_openM hM64)); (try (have HP64 := Kd.R_seg HX64.out (x11_2 : Int) (of_decide_eq_true x71_25) (by have h_ : (x11_2 : Int) < ((x9_2.length : Int) : Int) := of_decide_eq_true x71_25; first | exact h_ | (have e_ := (Kd.R_reads' HO_9.out).1; omega) | simpa using h_) (seg := [.int .i64 202, .int .i64 0, .string (⟨#[]⟩ : ByteArray), .int .i64 0, .int .u64 0]) (j := 0) hcl64 hcc64 (show 5 ≤ 5 from by decide) (x' := (⟨202, 0, (⟨#[]⟩ : ByteArray), 0, 0⟩ : S30)) (k30_mkM _ _ _ (⟨202, 0, (⟨#[]⟩ : ByteArray), 0, 0⟩ : S30) ) (fun _ hk => hk))); (try (have hx64_0 := hcc64 0 _ rfl)); (try (try simp only [show (k30).sz = 5 from rfl, Nat.mul_one, Nat.add_zero] at hx64_0)); (try (have hf64_0 := hfr64 0)); (try (try simp only [show (k30).sz = 5 from rfl, Nat.mul_one, Nat.add_zero] at hf64_0)); (try (have hx64_1 := hcc64 1 _ rfl)); (try (try simp only [show (k30).sz = 5 from rfl, Nat.mul_one, Nat.add_zero] at hx64_1)); (try (have hf64_1 := hfr64 1)); (try (try simp only [show (k30).sz = 5 from rfl, Nat.mul_one, Nat.add_zero] at hf64_1)); (try (have hx64_2 := hcc64 2 _ rfl)); (try (try simp only [show (k30).sz = 5 from rfl, Nat.mul_one, Nat.add_zero] at hx64_2)); (try (have hf64_2 := hfr64 2)); (try (try simp only [show (k30).sz = 5 from rfl, Nat.mul_one, Nat.add_zero] at hf64_2)); (try (have hx64_3 := hcc64 3 _ rfl)); (try (try simp only [show (k30).sz = 5 from rfl, Nat.mul_one, Nat.add_zero] at hx64_3)); (try (have hf64_3 := hfr64 3)); (try (try simp only [show (k30).sz = 5 from rfl, Nat.mul_one, Nat.add_zero] at hf64_3)); (try (have hx64_4 := hcc64 4 _ rfl)); (try (try simp only [show (k30).sz = 5 from rfl, Nat.mul_one, Nat.add_zero] at hx64_4)); (try (have hf64_4 := hfr64 4)); (try (try simp only [show (k30).sz = 5 from rfl, Nat.mul_one, Nat.add_zero] at hf64_4)); (try (clear hcl64 hcc64 hfr64 hM64)))); refine store_event (t := 30) (p := 87) (v := ?vo_w65) (w1 := (((((w63.setCell ⟨go58, (x11_2 : Int).toNat * 5, none⟩ (.int .i64 202)).setCell ⟨go58, (x11_2 : Int).toNat * 5 + 1, none⟩ (.int .i64 0)).setCell ⟨go58, (x11_2 : Int).toNat * 5 + 2, none⟩ (.string (⟨#[]⟩ : ByteArray))).setCell ⟨go58, (x11_2 : Int).toNat * 5 + 3, none⟩ (.int .i64 0)).setCell ⟨go58, (x11_2 : Int).toNat * 5 + 4, none⟩ (.int .u64 0))) ?hg ?ho ?hn ?hr ?_; (case ho => rfl); (case hg => rfl); (case hn => rfl); (case hr => first | (go_simp; done) | (go_simp; rfl)); intro w65 hw; have hg : w63.grownBy w65 (some go58) := (by rw [hw]; exact HP64.2); have hp_ : Kd.R k30 30 w65 w.heap.size (fun k_ => some k_ ≠ (.slice (some ad454) t435.length co59 : Value).ownBlock ∧ some k_ ≠ (.slice (some ⟨go57, 0, none⟩) x7_2.length co60 : Value).ownBlock) (.slice (some ⟨go58, 0, none⟩) x9_2.length co61) y458 := (by rw [hw, Ny458.out]; exact HP64.1); clear HP64; have n0_ := Aside0.mk (Kd.R_after (v := (.slice (some ⟨go58, 0, none⟩) x9_2.length co61)) (v1 := (.slice (some ⟨go58, 0, none⟩) x9_2.length co61)) (ok := (fun k_ => some k_ ≠ (.slice (some ⟨go57, 0, none⟩) x7_2.length co60 : Value).ownBlock)) x71_13 hg (.inl rfl)); have n1_ := Aside0.mk (Kd.R_after (v := (.slice (some ⟨go58, 0, none⟩) x9_2.length co61)) (v1 := (.slice (some ⟨go58, 0, none⟩) x9_2.length co61)) (ok := (fun k_ => some k_ ≠ (.slice (some ad454) t435.length co59 : Value).ownBlock)) x71_19 hg (.inl rfl)); have n2_ := Aside0.mk (hp_); have n3_ := Aside0.mk (blk_grown (g := gb440) (o := .cells #[.int .i64 t438, .int .i64 t439] 25 (0, 0)) x71_21 hg (Kd.R_ne HO_9.out BK440.out (by decide))); have n4_ := Aside0.mk (blk_grown (g := gb446) (o := .cells #[.int .i64 t444, .int .i64 t445] 25 (0, 0)) x71_22 hg (Kd.R_ne HO_9.out BK446.out (by decide))); have n5_ := Aside0.mk (blk_grown (g := gb452) (o := .cells #[.int .i64 t450, .int .i64 t451] 25 (0, 0)) x71_23 hg (Kd.R_ne HO_9.out BK452.out (by decide))); have n6_ := Aside0.mk ((by rw [hw]; exact below_set (below_set (below_set (below_set (below_set (HB.out) GB58.out) GB58.out) GB58.out) GB58.out) GB58.out : Below w.heap.size w w65)); clear HO_5; clear HO_7; clear HO_9; clear BK440; clear BK446; clear BK452; clear HB; have HO_5 := n0_; have HO_7 := n1_; have HO_9 := n2_; have BK440 := n3_; have BK446 := n4_; have BK452 := n5_; have HB := n6_; clear n0_ n1_ n2_ n3_ n4_ n5_ n6_; clear hg hw hp_)))
             go_roundg k2
             case measure => have := HJ6.out; have := HK2.out; omega
             case rel => exact ⟨(y457), (y458), (wrap64 (x11_2 + 1)), x71_26, H', ⟨by have := HJ6.out; have := HK2.out; omega⟩, ⟨x71_18⟩, ⟨x71_19⟩, ⟨x71_20⟩, ⟨x71_21⟩, ⟨x71_22⟩, ⟨x71_23⟩, ⟨x71_10⟩⟩
           ·rw [if_neg c52] at H
            exact absurd H (by simp)
         ·rw [if_neg c48] at H
          exact absurd H (by simp)
        ·rw [if_neg c47] at H
         exact absurd H (by simp)
       ·rw [if_neg c46] at H
        have c46b0 := decide_eq_false c46
        clear c46
        by_cases c66 : x7_2.length < 2932031007402
        ·rw [if_pos c66] at H
         have LMc66 := Aside0.mk c66
         clear c66
         obtain ⟨y459, hy459⟩ : ∃ y_ : List (S30), y_ = (x7_2 ++ [(⟨201, 0, (⟨#[]⟩ : ByteArray), 0, 0⟩ : S30)]) := ⟨_, rfl⟩
         replace H : (if x9_2.length < 2932031007402 then (casketlaw11_LexReads.l1 k2 a0 a1 y459 (x9_2 ++ [(⟨202, 0, (⟨#[]⟩ : ByteArray), 0, 0⟩ : S30)]) 0) else (none)) = some r := by first | (rw [hy459]; with_reducible exact H) | (have H2_ := (Option.bind_some _ _).symm.trans H; rw [hy459]; with_reducible exact H2_) | (have H2_ := (Option.bind_some _ _).symm.trans H; with_reducible exact H2_) | with_reducible exact H | (rw [hy459]; exact H) | exact H
         have Ny459 := Aside0.mk hy459
         clear hy459
         by_cases c67 : x9_2.length < 2932031007402
         ·rw [if_pos c67] at H
          have LMc67 := Aside0.mk c67
          clear c67
          obtain ⟨y462, hy462⟩ : ∃ y_ : List (S30), y_ = (x9_2 ++ [(⟨202, 0, (⟨#[]⟩ : ByteArray), 0, 0⟩ : S30)]) := ⟨_, rfl⟩
          replace H : (casketlaw11_LexReads.l1 k2 a0 a1 y459 y462 0) = some r := by first | (rw [hy462]; with_reducible exact H) | (have H2_ := (Option.bind_some _ _).symm.trans H; rw [hy462]; with_reducible exact H2_) | (have H2_ := (Option.bind_some _ _).symm.trans H; with_reducible exact H2_) | with_reducible exact H | (rw [hy462]; exact H) | exact H
          have Ny462 := Aside0.mk hy462
          clear hy462
          have H' := Aside0.mk H
          clear H
          obtain ⟨Ao68, co68, eo68⟩ := Kd.R_slice HO_5.out
          subst eo68
          go_wp2_with (first | ((with_reducible refine gate_builtin (b := .append) (xs := #[.tmp 88, .tmp 90]) rfl ?_); (try (refine gate_guard (by rfl) ?_; dsimp only)); at_builtin; refine Kd.R_append k30 (w0 := w) w.heap.size rfl (.tmp 88) (.tmp 90) 22 30 (.agg #[(.int .i64 0), (.int .i64 0), (.string ⟨#[]⟩), (.int .i64 0), (.int .u64 0)]) 48 rfl Tryd.underlying22 info30 rfl (by decide) (by omega) v442 x7_2 (⟨201, 0, (⟨#[]⟩ : ByteArray), 0, 0⟩ : S30) [.int .i64 201, .int .i64 0, .string (⟨#[]⟩ : ByteArray), .int .i64 0, .int .u64 0] (fun k_ => some k_ ≠ (.slice Ao68 t435.length co68 : Value).ownBlock ∧ some k_ ≠ (v448 : Value).ownBlock) (fun _ => False) rfl rfl ?aP (fun _ hk => hk.elim) ?aF ?aO ?aB ?aS ?aL ?_; (case aP => exact k30_mkM _ _ _ (⟨201, 0, (⟨#[]⟩ : ByteArray), 0, 0⟩ : S30)); (case aB => exact x71_10); (case aF => exact (fun k_ hk => ⟨Kd.fresh' (Kd.R_lt x71_18) k_ hk, Kd.fresh' (Kd.R_lt x71_20) k_ hk⟩)); (case aO => exact x71_19); (case aS => exact (below_size x71_10)); (case aL => have := LMc66.out; omega); intro v460 w69 ho hb hg hat; rw [← Ny459.out] at ho; have n0_ := Aside0.mk (Kd.R_after (ok := (fun k_ => some k_ ≠ (v448 : Value).ownBlock)) x71_13 hg hat); have n1_ := Aside0.mk (Kd.R_after (ok := (fun k_ => some k_ ≠ (.slice Ao68 t435.length co68 : Value).ownBlock)) x71_20 hg hat); have n2_ := Aside0.mk (blk_grown (g := gb440) (o := .cells #[.int .i64 t438, .int .i64 t439] 25 (0, 0)) x71_21 hg (Kd.R_ne HO_7.out BK440.out (by decide))); have n3_ := Aside0.mk (blk_grown (g := gb446) (o := .cells #[.int .i64 t444, .int .i64 t445] 25 (0, 0)) x71_22 hg (Kd.R_ne HO_7.out BK446.out (by decide))); have n4_ := Aside0.mk (blk_grown (g := gb452) (o := .cells #[.int .i64 t450, .int .i64 t451] 25 (0, 0)) x71_23 hg (Kd.R_ne HO_7.out BK452.out (by decide))); have n5_ := Aside0.mk (hb); have n6_ := Aside0.mk (ho); clear HO_5; clear HO_9; clear BK440; clear BK446; clear BK452; clear HB; clear HO_7; have HO_5 := n0_; have HO_9 := n1_; have BK440 := n2_; have BK446 := n3_; have BK452 := n4_; have HB := n5_; have HO461 := n6_; clear n0_ n1_ n2_ n3_ n4_ n5_ n6_; clear ho hb hg hat) | ((with_reducible refine gate_builtin (b := .append) (xs := #[.tmp 92, .tmp 94]) rfl ?_); (try (refine gate_guard (by rfl) ?_; dsimp only)); at_builtin; refine Kd.R_append k30 (w0 := w) w.heap.size rfl (.tmp 92) (.tmp 94) 22 30 (.agg #[(.int .i64 0), (.int .i64 0), (.string ⟨#[]⟩), (.int .i64 0), (.int .u64 0)]) 48 rfl Tryd.underlying22 info30 rfl (by decide) (by omega) v448 x9_2 (⟨202, 0, (⟨#[]⟩ : ByteArray), 0, 0⟩ : S30) [.int .i64 202, .int .i64 0, .string (⟨#[]⟩ : ByteArray), .int .i64 0, .int .u64 0] (fun k_ => some k_ ≠ (.slice Ao68 t435.length co68 : Value).ownBlock ∧ some k_ ≠ (v460 : Value).ownBlock) (fun _ => False) rfl rfl ?aP (fun _ hk => hk.elim) ?aF ?aO ?aB ?aS ?aL ?_; (case aP => exact k30_mkM _ _ _ (⟨202, 0, (⟨#[]⟩ : ByteArray), 0, 0⟩ : S30)); (case aB => exact x71_10); (case aF => exact (fun k_ hk => ⟨Kd.fresh' (Kd.R_lt x71_18) k_ hk, Kd.fresh' (Kd.R_lt x71_17) k_ hk⟩)); (case aO => exact x71_20); (case aS => exact (below_size x71_10)); (case aL => have := LMc67.out; omega); intro v463 w70 ho hb hg hat; rw [← Ny462.out] at ho; have n0_ := Aside0.mk (Kd.R_after (ok := (fun k_ => some k_ ≠ (v460 : Value).ownBlock)) x71_13 hg hat); have n1_ := Aside0.mk (blk_grown (g := gb440) (o := .cells #[.int .i64 t438, .int .i64 t439] 25 (0, 0)) x71_21 hg (Kd.R_ne HO_9.out BK440.out (by decide))); have n2_ := Aside0.mk (blk_grown (g := gb446) (o := .cells #[.int .i64 t444, .int .i64 t445] 25 (0, 0)) x71_22 hg (Kd.R_ne HO_9.out BK446.out (by decide))); have n3_ := Aside0.mk (blk_grown (g := gb452) (o := .cells #[.int .i64 t450, .int .i64 t451] 25 (0, 0)) x71_23 hg (Kd.R_ne HO_9.out BK452.out (by decide))); have n4_ := Aside0.mk (Kd.R_after (ok := (fun k_ => some k_ ≠ (.slice Ao68 t435.length co68 : Value).ownBlock)) x71_17 hg hat); have n5_ := Aside0.mk (hb); have n6_ := Aside0.mk (ho); clear HO_5; clear BK440; clear BK446; clear BK452; clear HO461; clear HB; clear HO_9; have HO_5 := n0_; have BK440 := n1_; have BK446 := n2_; have BK452 := n3_; have HO461 := n4_; have HB := n5_; have HO464 := n6_; clear n0_ n1_ n2_ n3_ n4_ n5_ n6_; clear ho hb hg hat))
          repeat (go_quiet (fail); try go_wp2)
          go_loopg [12] k2 (fun kq v12 w' => ∃ (x12_3 : Int), v12 = .int .i64 x12_3 ∧ Aside0 (casketlaw11_LexReads.l1 kq a0 a1 y459 y462 x12_3 = some r) ∧ Aside0 (kq ≤ k2) ∧ Aside0 (Kd.R k30 30 w' w.heap.size (fun k_ => some k_ ≠ (v463 : Value).ownBlock) v460 y459) ∧ Aside0 (Kd.R k30 30 w' w.heap.size (fun k_ => some k_ ≠ (v460 : Value).ownBlock) v463 y462) ∧ Aside0 (w'.heap[gb440]? = some (.cells #[.int .i64 t438, .int .i64 t439] 25 (0, 0))) ∧ Aside0 (w'.heap[gb446]? = some (.cells #[.int .i64 t444, .int .i64 t445] 25 (0, 0))) ∧ Aside0 (w'.heap[gb452]? = some (.cells #[.int .i64 t450, .int .i64 t451] 25 (0, 0))) ∧ Aside0 (Below w.heap.size w w'))
          case atStart => exact ⟨(0), x71_26, H', ⟨Nat.le_refl _⟩, ⟨by (with_reducible repeat (first | apply Kd.R_alloc | apply Kd.R_drewN | apply Kd.R_drew)); exact Kd.R_mono HO461.out (fun _ hk => hk.2)⟩, ⟨by (with_reducible repeat (first | apply Kd.R_alloc | apply Kd.R_drewN | apply Kd.R_drew)); exact Kd.R_mono HO464.out (fun _ hk => hk.2)⟩, ⟨x71_21⟩, ⟨x71_22⟩, ⟨x71_23⟩, ⟨x71_10⟩⟩
          case round =>
           clear H'
           obtain ⟨x12_3, rfl, HA, HK3, HO_7, HO_9, BK440, BK446, BK452, HB⟩ := hrel
           cases gk with
           | zero => exact absurd HA.out (by simp [casketlaw11_LexReads.l1])
           | succ k3 =>
            have H := HA.out
            clear HA
            simp only [casketlaw11_LexReads.l1] at H
            by_cases c71 : x12_3 < (y459.length : Int)
            ·rw [if_pos c71] at H
             have c71b0 := decide_eq_true c71
             clear c71
             by_cases c72 : 0 ≤ x12_3
             ·rw [if_pos c72] at H
              have c72b0 := decide_eq_true c72
              clear c72
              by_cases c73 : ((rd_T30 y459 x12_3).f0) = 201
              ·rw [if_pos c73] at H
               have c73b0 := beq_iff_eq.mpr c73
               have c73b1 := bne_eq_false_iff_eq.mpr c73
               clear c73
               by_cases c74 : x12_3 < (y462.length : Int)
               ·rw [if_pos c74] at H
                have c74b0 := decide_eq_true c74
                clear c74
                by_cases c75 : ((rd_T30 y462 x12_3).f0) = 202
                ·rw [if_pos c75] at H
                 have c75b0 := beq_iff_eq.mpr c75
                 have c75b1 := bne_eq_false_iff_eq.mpr c75
                 clear c75
                 have H' := Aside0.mk H
                 clear H
                 obtain ⟨Ao76, co76, eo76⟩ := Kd.R_slice HO_7.out
                 subst eo76
                 have p465 : 0 ≤ (x12_3 : Int) := of_decide_eq_true x71_25
                 have q465 : x12_3 < (y459.length : Int) := of_decide_eq_true x71_25
                 obtain ⟨ad465, e465, hx465_0, hx465_1, hx465_2, hx465_3, hx465_4⟩ := at_T30 (Kd.R_reads' HO_7.out).2.2 x12_3 p465 q465
                 cases e465
                 replace p465 := eq_true p465
                 replace q465 := eq_true q465
                 obtain ⟨Ao77, co77, eo77⟩ := Kd.R_slice HO_9.out
                 subst eo77
                 have p466 : 0 ≤ (x12_3 : Int) := of_decide_eq_true x71_25
                 have q466 : x12_3 < (y462.length : Int) := of_decide_eq_true x71_25
                 obtain ⟨ad466, e466, hx466_0, hx466_1, hx466_2, hx466_3, hx466_4⟩ := at_T30 (Kd.R_reads' HO_9.out).2.2 x12_3 p466 q466
                 cases e466
                 replace p466 := eq_true p466
                 replace q466 := eq_true q466
                 go_wp2
                 repeat (go_quiet (fail); try go_wp2)
                 go_roundg k3
                 case measure => have := HJ6.out; have := HK2.out; have := HK3.out; omega
                 case rel => exact ⟨(wrap64 (x12_3 + 1)), x71_26, H', ⟨by have := HJ6.out; have := HK2.out; have := HK3.out; omega⟩, ⟨x71_19⟩, ⟨x71_20⟩, ⟨x71_21⟩, ⟨x71_22⟩, ⟨x71_23⟩, ⟨x71_10⟩⟩
                ·rw [if_neg c75] at H
                 have c75b0 := beq_eq_false_iff_ne.mpr c75
                 have c75b1 := bne_iff_ne.mpr c75
                 obtain rfl := Option.some.inj H
                 obtain ⟨Ao78, co78, eo78⟩ := Kd.R_slice HO_7.out
                 subst eo78
                 have p465 : 0 ≤ (x12_3 : Int) := of_decide_eq_true x71_25
                 have q465 : x12_3 < (y459.length : Int) := of_decide_eq_true x71_25
                 obtain ⟨ad465, e465, hx465_0, hx465_1, hx465_2, hx465_3, hx465_4⟩ := at_T30 (Kd.R_reads' HO_7.out).2.2 x12_3 p465 q465
                 cases e465
                 replace p465 := eq_true p465
                 replace q465 := eq_true q465
                 obtain ⟨Ao79, co79, eo79⟩ := Kd.R_slice HO_9.out
                 subst eo79
                 have p466 : 0 ≤ (x12_3 : Int) := of_decide_eq_true x71_25
                 have q466 : x12_3 < (y462.length : Int) := of_decide_eq_true x71_25
                 obtain ⟨ad466, e466, hx466_0, hx466_1, hx466_2, hx466_3, hx466_4⟩ := at_T30 (Kd.R_reads' HO_9.out).2.2 x12_3 p466 q466
                 cases e466
                 replace p466 := eq_true p466
                 replace q466 := eq_true q466
                 go_wp2
                 repeat (go_quiet (fail); try go_wp2)
                 go_ret
                 exact ⟨x71_24, x71_10⟩
               ·rw [if_neg c74] at H
                exact absurd H (by simp)
              ·rw [if_neg c73] at H
               have c73b0 := beq_eq_false_iff_ne.mpr c73
               have c73b1 := bne_iff_ne.mpr c73
               obtain rfl := Option.some.inj H
               obtain ⟨Ao80, co80, eo80⟩ := Kd.R_slice HO_7.out
               subst eo80
               have p465 : 0 ≤ (x12_3 : Int) := of_decide_eq_true x71_25
               have q465 : x12_3 < (y459.length : Int) := of_decide_eq_true x71_25
               obtain ⟨ad465, e465, hx465_0, hx465_1, hx465_2, hx465_3, hx465_4⟩ := at_T30 (Kd.R_reads' HO_7.out).2.2 x12_3 p465 q465
               cases e465
               replace p465 := eq_true p465
               replace q465 := eq_true q465
               go_wp2
               repeat (go_quiet (fail); try go_wp2)
               go_ret
               exact ⟨x71_24, x71_10⟩
             ·rw [if_neg c72] at H
              exact absurd H (by simp)
            ·rw [if_neg c71] at H
             have c71b0 := decide_eq_false c71
             clear c71
             obtain ⟨t467, A810, H⟩ := Option.bind_eq_some_iff.mp H
             have A81 := Aside0.mk A810
             clear A810
             by_cases c82 : t467 = true
             ·subst c82
              rw [if_pos rfl] at H
              obtain ⟨t468, A830, H⟩ := Option.bind_eq_some_iff.mp H
              have A83 := Aside0.mk A830
              clear A830
              by_cases c84 : t468 = true
              ·subst c84
               rw [if_pos rfl] at H
               obtain ⟨t469, A850, H⟩ := Option.bind_eq_some_iff.mp H
               have A85 := Aside0.mk A850
               clear A850
               obtain rfl := Option.some.inj H
               obtain ⟨Ao86, co86, eo86⟩ := Kd.R_slice HO_7.out
               subst eo86
               go_wp2_with (first | (go_at_call 10; refine (lex_Tokens.calls _ _).mono ?_; rintro e w' ⟨rfl, rfl⟩) | (go_at_call 11; (with_reducible refine (casketlaw11_goes.calls (hG := x71_9) a0 0 true _ A81.out).mono ?_); rintro e w87 ⟨rfl, hb⟩; have n0_ := Aside0.mk (Kd.R_below x71_19 hb); have n1_ := Aside0.mk (Kd.R_below x71_20 hb); have n2_ := Aside0.mk (blk_below (g := gb440) (o := .cells #[.int .i64 t438, .int .i64 t439] 25 (0, 0)) x71_21 hb); have n3_ := Aside0.mk (blk_below (g := gb446) (o := .cells #[.int .i64 t444, .int .i64 t445] 25 (0, 0)) x71_22 hb); have n4_ := Aside0.mk (blk_below (g := gb452) (o := .cells #[.int .i64 t450, .int .i64 t451] 25 (0, 0)) x71_23 hb); have n5_ := Aside0.mk (below_step x71_10 hb); clear HO_7; clear HO_9; clear BK440; clear BK446; clear BK452; clear HB; have HO_7 := n0_; have HO_9 := n1_; have BK440 := n2_; have BK446 := n3_; have BK452 := n4_; have HB := n5_; clear n0_ n1_ n2_ n3_ n4_ n5_) | (go_at_call 11; (with_reducible refine (casketlaw11_goes.calls (hG := x71_9) a0 a1 true _ A83.out).mono ?_); rintro e w88 ⟨rfl, hb⟩; have n0_ := Aside0.mk (Kd.R_below x71_19 hb); have n1_ := Aside0.mk (Kd.R_below x71_20 hb); have n2_ := Aside0.mk (blk_below (g := gb440) (o := .cells #[.int .i64 t438, .int .i64 t439] 25 (0, 0)) x71_21 hb); have n3_ := Aside0.mk (blk_below (g := gb446) (o := .cells #[.int .i64 t444, .int .i64 t445] 25 (0, 0)) x71_22 hb); have n4_ := Aside0.mk (blk_below (g := gb452) (o := .cells #[.int .i64 t450, .int .i64 t451] 25 (0, 0)) x71_23 hb); have n5_ := Aside0.mk (below_step x71_10 hb); clear HO_7; clear HO_9; clear BK440; clear BK446; clear BK452; clear HB; have HO_7 := n0_; have HO_9 := n1_; have BK440 := n2_; have BK446 := n3_; have BK452 := n4_; have HB := n5_; clear n0_ n1_ n2_ n3_ n4_ n5_) | (go_at_call 12; (with_reducible refine (casketlaw11_awake.calls (hG := x71_9)  t469 _ A85.out).mono ?_); rintro e w89 ⟨rfl, hb⟩; have n0_ := Aside0.mk (Kd.R_below x71_19 hb); have n1_ := Aside0.mk (Kd.R_below x71_20 hb); have n2_ := Aside0.mk (blk_below (g := gb440) (o := .cells #[.int .i64 t438, .int .i64 t439] 25 (0, 0)) x71_21 hb); have n3_ := Aside0.mk (blk_below (g := gb446) (o := .cells #[.int .i64 t444, .int .i64 t445] 25 (0, 0)) x71_22 hb); have n4_ := Aside0.mk (blk_below (g := gb452) (o := .cells #[.int .i64 t450, .int .i64 t451] 25 (0, 0)) x71_23 hb); have n5_ := Aside0.mk (below_step x71_10 hb); clear HO_7; clear HO_9; clear BK440; clear BK446; clear BK452; clear HB; have HO_7 := n0_; have HO_9 := n1_; have BK440 := n2_; have BK446 := n3_; have BK452 := n4_; have HB := n5_; clear n0_ n1_ n2_ n3_ n4_ n5_))
               repeat (go_quiet (fail); try go_wp2)
               go_ret
               exact ⟨x71_24, x71_10⟩
              ·replace c84 := Bool.eq_false_iff.mpr c84
               subst c84
               rw [if_neg (show ¬ (false = true) by decide)] at H
               obtain rfl := Option.some.inj H
               obtain ⟨Ao90, co90, eo90⟩ := Kd.R_slice HO_7.out
               subst eo90
               go_wp2_with (first | (go_at_call 10; refine (lex_Tokens.calls _ _).mono ?_; rintro e w' ⟨rfl, rfl⟩) | (go_at_call 11; (with_reducible refine (casketlaw11_goes.calls (hG := x71_9) a0 0 true _ A81.out).mono ?_); rintro e w91 ⟨rfl, hb⟩; have n0_ := Aside0.mk (Kd.R_below x71_19 hb); have n1_ := Aside0.mk (Kd.R_below x71_20 hb); have n2_ := Aside0.mk (blk_below (g := gb440) (o := .cells #[.int .i64 t438, .int .i64 t439] 25 (0, 0)) x71_21 hb); have n3_ := Aside0.mk (blk_below (g := gb446) (o := .cells #[.int .i64 t444, .int .i64 t445] 25 (0, 0)) x71_22 hb); have n4_ := Aside0.mk (blk_below (g := gb452) (o := .cells #[.int .i64 t450, .int .i64 t451] 25 (0, 0)) x71_23 hb); have n5_ := Aside0.mk (below_step x71_10 hb); clear HO_7; clear HO_9; clear BK440; clear BK446; clear BK452; clear HB; have HO_7 := n0_; have HO_9 := n1_; have BK440 := n2_; have BK446 := n3_; have BK452 := n4_; have HB := n5_; clear n0_ n1_ n2_ n3_ n4_ n5_) | (go_at_call 11; (with_reducible refine (casketlaw11_goes.calls (hG := x71_9) a0 a1 false _ A83.out).mono ?_); rintro e w92 ⟨rfl, hb⟩; have n0_ := Aside0.mk (Kd.R_below x71_19 hb); have n1_ := Aside0.mk (Kd.R_below x71_20 hb); have n2_ := Aside0.mk (blk_below (g := gb440) (o := .cells #[.int .i64 t438, .int .i64 t439] 25 (0, 0)) x71_21 hb); have n3_ := Aside0.mk (blk_below (g := gb446) (o := .cells #[.int .i64 t444, .int .i64 t445] 25 (0, 0)) x71_22 hb); have n4_ := Aside0.mk (blk_below (g := gb452) (o := .cells #[.int .i64 t450, .int .i64 t451] 25 (0, 0)) x71_23 hb); have n5_ := Aside0.mk (below_step x71_10 hb); clear HO_7; clear HO_9; clear BK440; clear BK446; clear BK452; clear HB; have HO_7 := n0_; have HO_9 := n1_; have BK440 := n2_; have BK446 := n3_; have BK452 := n4_; have HB := n5_; clear n0_ n1_ n2_ n3_ n4_ n5_))
               repeat (go_quiet (fail); try go_wp2)
               go_ret
               exact ⟨x71_24, x71_10⟩
             ·replace c82 := Bool.eq_false_iff.mpr c82
              subst c82
              rw [if_neg (show ¬ (false = true) by decide)] at H
              obtain rfl := Option.some.inj H
              obtain ⟨Ao93, co93, eo93⟩ := Kd.R_slice HO_7.out
              subst eo93
              go_wp2_with (first | (go_at_call 10; refine (lex_Tokens.calls _ _).mono ?_; rintro e w' ⟨rfl, rfl⟩) | (go_at_call 11; (with_reducible refine (casketlaw11_goes.calls (hG := x71_9) a0 0 false _ A81.out).mono ?_); rintro e w94 ⟨rfl, hb⟩; have n0_ := Aside0.mk (Kd.R_below x71_19 hb); have n1_ := Aside0.mk (Kd.R_below x71_20 hb); have n2_ := Aside0.mk (blk_below (g := gb440) (o := .cells #[.int .i64 t438, .int .i64 t439] 25 (0, 0)) x71_21 hb); have n3_ := Aside0.mk (blk_below (g := gb446) (o := .cells #[.int .i64 t444, .int .i64 t445] 25 (0, 0)) x71_22 hb); have n4_ := Aside0.mk (blk_below (g := gb452) (o := .cells #[.int .i64 t450, .int .i64 t451] 25 (0, 0)) x71_23 hb); have n5_ := Aside0.mk (below_step x71_10 hb); clear HO_7; clear HO_9; clear BK440; clear BK446; clear BK452; clear HB; have HO_7 := n0_; have HO_9 := n1_; have BK440 := n2_; have BK446 := n3_; have BK452 := n4_; have HB := n5_; clear n0_ n1_ n2_ n3_ n4_ n5_))
              repeat (go_quiet (fail); try go_wp2)
              go_ret
              exact ⟨x71_24, x71_10⟩
         ·rw [if_neg c67] at H
          exact absurd H (by simp)
        ·rw [if_neg c66] at H
         exact absurd H (by simp)
def casketlaw11_LexReads.Pure : Prop := ∀ (a0 : ByteArray) (a1 : Int), a0.size ≤ 140737488351232 → (Lit.int .i64 a1).wf = true → ∃ k, casketlaw11_LexReads.f k a0 a1 = some true
theorem casketlaw11_LexReads.walk (P : casketlaw11_LexReads.Pure) (a0 : ByteArray) (a1 : Int) (w : World) (hG : Glob w) (w0 : a0.size ≤ 140737488351232) (w1 : (Lit.int .i64 a1).wf = true) :
  Calls Tryd.prog 3 #[.string a0, .int .i64 a1] w fun e w' => e = .returned (.bool true) ∧ Below w.heap.size w w' := by
 obtain ⟨k, h⟩ := P a0 a1 w0 w1
 refine (casketlaw11_LexReads.calls (hG := hG) k a0 a1 true w h).mono ?_
 rintro e w' ⟨rfl, hd⟩
 exact ⟨rfl, hd⟩
end Go.Proofs.YtjolkombhdibcaaDoor.Print
end
section
namespace Go.Proofs.YtjolkombhdibcaaDoor.Sp
open Go.RowKit Go.Proofs.YtjolkombhdibcaaDoorW.PrintWords Go.Proofs.YtjolkombhdibcaaDoorW.PrintMore Go.Proofs.YtjolkombhdibcaaDoor.Given Go.Proofs.YtjolkombhdibcaaDoor.Print
set_option linter.unusedVariables false
set_option linter.unusedSimpArgs false
def awL : List UInt8 := [108, 101, 116, 32, 120, 61, 49, 46, 46, 50, 32, 35, 32, 121]
theorem toks_step {l : List UInt8} {p : Nat} (c : UInt8) (r m : List UInt8) (q : Nat) (hl : l = c :: r) (hb : ¬ blank c) (hc : c ≠ 35) (t : T7) (ht : nextT (c :: r) = t) (he : te t = 0) (hq : tn t = q) (hm : (c :: r).drop q = m) :
    toks l p = (tk t p, 0, 0) :: toks m (p + q) := by
  subst hl ht hm
  exact toks_tok hb hc r p q he hq
theorem aw1 : nextT awL = tok 2 [108, 101, 116] 0 0 3 := by decide +kernel
theorem aw2 : nextT [120, 61, 49, 46, 46, 50, 32, 35, 32, 121] = tok 1 [120] 0 0 1 := by decide +kernel
theorem aw3 : nextT [61, 49, 46, 46, 50, 32, 35, 32, 121] = tok 3 [61] 0 0 1 := by decide +kernel
theorem aw4 : nextT [49, 46, 46, 50, 32, 35, 32, 121] = tok 4 [] 1 0 1 := by decide +kernel
theorem aw5 : nextT [46, 46, 50, 32, 35, 32, 121] = tok 3 [46, 46] 0 0 2 := by decide +kernel
theorem aw6 : nextT [50, 32, 35, 32, 121] = tok 4 [] 2 0 1 := by decide +kernel
theorem aw_toks : toks awL 0 = [(tk (tok 2 [108, 101, 116] 0 0 3) 0, 0, 0), (tk (tok 1 [120] 0 0 1) 4, 0, 0), (tk (tok 3 [61] 0 0 1) 5, 0, 0), (tk (tok 4 [] 1 0 1) 6, 0, 0), (tk (tok 3 [46, 46] 0 0 2) 7, 0, 0), (tk (tok 4 [] 2 0 1) 9, 0, 0), endE 14] := by
  rw [toks_step (l := awL) 108 [101, 116, 32, 120, 61, 49, 46, 46, 50, 32, 35, 32, 121] [32, 120, 61, 49, 46, 46, 50, 32, 35, 32, 121] 3 rfl (by decide) (by decide) _ aw1 rfl rfl rfl]
  rw [toks_blank (c := 32) (.inl rfl)]
  rw [toks_step (l := [120, 61, 49, 46, 46, 50, 32, 35, 32, 121]) 120 [61, 49, 46, 46, 50, 32, 35, 32, 121] [61, 49, 46, 46, 50, 32, 35, 32, 121] 1 rfl (by decide) (by decide) _ aw2 rfl rfl rfl]
  rw [toks_step (l := [61, 49, 46, 46, 50, 32, 35, 32, 121]) 61 [49, 46, 46, 50, 32, 35, 32, 121] [49, 46, 46, 50, 32, 35, 32, 121] 1 rfl (by decide) (by decide) _ aw3 rfl rfl rfl]
  rw [toks_step (l := [49, 46, 46, 50, 32, 35, 32, 121]) 49 [46, 46, 50, 32, 35, 32, 121] [46, 46, 50, 32, 35, 32, 121] 1 rfl (by decide) (by decide) _ aw4 rfl rfl rfl]
  rw [toks_step (l := [46, 46, 50, 32, 35, 32, 121]) 46 [46, 50, 32, 35, 32, 121] [50, 32, 35, 32, 121] 2 rfl (by decide) (by decide) _ aw5 rfl rfl rfl]
  rw [toks_step (l := [50, 32, 35, 32, 121]) 50 [32, 35, 32, 121] [32, 35, 32, 121] 1 rfl (by decide) (by decide) _ aw6 rfl rfl rfl]
  rw [toks_blank (c := 32) (.inl rfl), toks_hash]
  have : Given.runN lineB [32, 121] = 2 := by decide
  rw [this, show ([32, 121] : List UInt8).drop 2 = [] from rfl, toks_nil]
theorem aw_all : allT awL = ([tk (tok 2 [108, 101, 116] 0 0 3) 0, tk (tok 1 [120] 0 0 1) 4, tk (tok 3 [61] 0 0 1) 5, tk (tok 4 [] 1 0 1) 6, tk (tok 3 [46, 46] 0 0 2) 7, tk (tok 4 [] 2 0 1) 9, (endE 14).1], 0, 0) := by
  unfold allT seqT
  rw [if_neg (by decide), aw_toks]
  rfl
theorem awake_f : casketlaw11_awake.f = some true := by
  unfold casketlaw11_awake.f
  have h : lex_All.f (⟨#[108, 101, 116, 32, 120, 61, 49, 46, 46, 50, 32, 35, 32, 121]⟩ : ByteArray) = some (allT awL) := all_f awL (by decide)
  rw [h, aw_all]
  decide +kernel
end Go.Proofs.YtjolkombhdibcaaDoor.Sp
end
section
namespace Go.Proofs.YtjolkombhdibcaaDoor.Pure
open Go.RowKit Go.Proofs.YtjolkombhdibcaaDoorW.PrintWords Go.Proofs.YtjolkombhdibcaaDoorW.PrintMore Go.Proofs.YtjolkombhdibcaaDoor.Given Go.Proofs.YtjolkombhdibcaaDoor.Print Go.Proofs.YtjolkombhdibcaaDoor.Sp
set_option linter.unusedVariables false
theorem lr_awake : Ev (fun _ => (casketlaw11_awake.f).bind fun t490 => (some t490)) true := Ev.bind0 awake_f (Ev.ret rfl)
def T201 : S30 := ⟨201, 0, (⟨#[]⟩ : ByteArray), 0, 0⟩
def T202 : S30 := ⟨202, 0, (⟨#[]⟩ : ByteArray), 0, 0⟩
def mixT (T : S30) (xs : List S30) (i : Nat) : List S30 := List.replicate i T ++ xs.drop i
theorem mix_len (T : S30) (xs : List S30) (i : Nat) (h : i ≤ xs.length) : (mixT T xs i).length = xs.length := by
  unfold mixT; simp; omega
theorem mix_rd (T : S30) (xs : List S30) (i : Nat) (h : i < xs.length) : rd_T30 (mixT T xs i) (i : Int) = rd_T30 xs (i : Int) := by
  unfold rd_T30 mixT
  rw [Int.toNat_natCast, List.getD_eq_getElem?_getD, List.getD_eq_getElem?_getD, List.getElem?_append_right (by simp)]
  simp
theorem mix_set (T : S30) (xs : List S30) (i : Nat) (h : i < xs.length) : (mixT T xs i).set i T = mixT T xs (i + 1) := by
  unfold mixT
  rw [List.set_append_right _ _ (by simp), List.length_replicate, Nat.sub_self, List.drop_eq_getElem_cons h, List.set_cons_zero, List.replicate_succ', List.append_assoc]
  rfl
theorem mix_all (T : S30) (xs : List S30) : mixT T xs xs.length = List.replicate xs.length T := by
  unfold mixT; simp
theorem rd_rep (T : S30) (n i : Nat) (h : i < n) : rd_T30 (List.replicate n T) (i : Int) = T := by
  unfold rd_T30
  rw [Int.toNat_natCast, List.getD_eq_getElem?_getD]
  simp [h]
theorem goes_f (l : List UInt8) (a : Int) (h : l.length ≤ 60000) : casketlaw11_goes.f (bs l) a = some true := by
  unfold casketlaw11_goes.f
  rw [if_pos (by rw [bs_size]; exact h)]
theorem lr_l1 (l : List UInt8) (hl : l.length ≤ 5000) (a : Int) (n : Nat) (hn : n ≤ 100000) : ∀ (m i : Nat), n - i ≤ m → i ≤ n →
    Ev (fun k => casketlaw11_LexReads.l1 k (bs l) a (List.replicate n T201) (List.replicate n T202) (i : Int)) true := by
  intro m
  have fin : Ev (fun k => ((casketlaw11_goes.f (bs l) 0).bind fun t467 => (if t467 = true then ((casketlaw11_goes.f (bs l) a).bind fun t468 => (if t468 = true then ((casketlaw11_awake.f).bind fun t469 => (some t469)) else (some false))) else (some false)))) true :=
    Ev.bind0 (goes_f l 0 (by omega)) (Ev.yes rfl (Ev.bind0 (goes_f l a (by omega)) (Ev.yes rfl lr_awake)))
  induction m with
  | zero =>
    intro i hm hi
    refine Ev.step (fun k => by rw [casketlaw11_LexReads.l1]) ?_
    exact Ev.no (by simp; omega) fin
  | succ m ih =>
    intro i hm hi
    refine Ev.step (fun k => by rw [casketlaw11_LexReads.l1]) ?_
    by_cases h : i < n
    · rw [rd_rep T201 n i h, rd_rep T202 n i h]
      refine Ev.yes (by simp; omega) (Ev.yes (by omega) (Ev.yes rfl (Ev.yes (by simp; omega) (Ev.yes rfl ?_))))
      have e1 : wrap64 ((i : Int) + 1) = ((i + 1 : Nat) : Int) := wrapP (a := i) (b := 1) (by omega)
      rw [e1]
      exact ih (i + 1) (by omega) h
    · exact Ev.no (by simp; omega) fin
theorem lr_l0 (l : List UInt8) (hl : l.length ≤ 5000) (a : Int) (xs : List S30) (hx : xs.length ≤ 60000) : ∀ (m i : Nat), xs.length - i ≤ m → i ≤ xs.length →
    Ev (fun k => casketlaw11_LexReads.l0 k (bs l) a xs (mixT T201 xs i) (mixT T202 xs i) (i : Int)) true := by
  intro m
  have hlt : (List.replicate xs.length T201).length < 2932031007402 ∧ (List.replicate xs.length T202).length < 2932031007402 := by
    rw [List.length_replicate, List.length_replicate]; exact ⟨by omega, by omega⟩
  have HLT := Aside0.mk hlt
  clear hlt
  have fin : Ev (fun k => (if (mixT T201 xs xs.length).length < 2932031007402 then (if (mixT T202 xs xs.length).length < 2932031007402 then (casketlaw11_LexReads.l1 k (bs l) a (mixT T201 xs xs.length ++ [(⟨201, 0, (⟨#[]⟩ : ByteArray), 0, 0⟩ : S30)]) (mixT T202 xs xs.length ++ [(⟨202, 0, (⟨#[]⟩ : ByteArray), 0, 0⟩ : S30)]) 0) else (none)) else (none))) true := by
    rw [mix_all, mix_all]
    refine Ev.yes HLT.out.1 (Ev.yes HLT.out.2 ?_)
    have e1 : List.replicate xs.length T201 ++ [(⟨201, 0, (⟨#[]⟩ : ByteArray), 0, 0⟩ : S30)] = List.replicate (xs.length + 1) T201 := (List.replicate_succ' ..).symm
    have e2 : List.replicate xs.length T202 ++ [(⟨202, 0, (⟨#[]⟩ : ByteArray), 0, 0⟩ : S30)] = List.replicate (xs.length + 1) T202 := (List.replicate_succ' ..).symm
    rw [e1, e2]
    exact lr_l1 l hl a (xs.length + 1) (by omega) _ 0 (Nat.le_refl _) (Nat.zero_le _)
  induction m with
  | zero =>
    intro i hm hi
    obtain rfl : i = xs.length := by omega
    refine Ev.step (fun k => by rw [casketlaw11_LexReads.l0]) ?_
    exact Ev.no (by omega) fin
  | succ m ih =>
    intro i hm hi
    by_cases h : i < xs.length
    · refine Ev.step (fun k => by rw [casketlaw11_LexReads.l0]) ?_
      rw [mix_rd T201 xs i h, mix_rd T202 xs i h, mix_len T201 xs i hi, mix_len T202 xs i hi, Int.toNat_natCast]
      refine Ev.yes (by omega) (Ev.yes (by omega) (Ev.yes (by omega) (Ev.no (by simp) (Ev.yes (by omega) (Ev.no (by simp) ?_)))))
      have e1 : wrap64 ((i : Int) + 1) = ((i + 1 : Nat) : Int) := wrapP (a := i) (b := 1) (by omega)
      have s1 : (mixT T201 xs i).set i (⟨201, 0, (⟨#[]⟩ : ByteArray), 0, 0⟩ : S30) = mixT T201 xs (i + 1) := mix_set T201 xs i h
      have s2 : (mixT T202 xs i).set i (⟨202, 0, (⟨#[]⟩ : ByteArray), 0, 0⟩ : S30) = mixT T202 xs (i + 1) := mix_set T202 xs i h
      rw [e1, s1, s2]
      exact ih (i + 1) (by omega) h
    · obtain rfl : i = xs.length := by omega
      refine Ev.step (fun k => by rw [casketlaw11_LexReads.l0]) ?_
      exact Ev.no (by omega) fin
theorem allT_len' (l : List UInt8) : (allT l).1.length ≤ l.length + 1 := by
  have h : ∀ (ys : List E) (acc : List S30), (col acc ys).1.length ≤ acc.length + ys.length := by
    intro ys
    induction ys with
    | nil => intro acc; simp [col]
    | cons y r ih =>
      intro acc
      obtain ⟨t, c, a⟩ := y
      rw [col]
      split
      · have := ih (acc ++ [t]); simp at this ⊢; omega
      · simp
  have h1 := h (seqT l) []
  have h2 := seq_le l
  unfold allT
  simp at h1
  omega
theorem LexReads : casketlaw11_LexReads.Pure := by
  intro s a hs ha
  refine Ev.rounds (g := fun k => casketlaw11_LexReads.f k s a) ?_
  unfold casketlaw11_LexReads.f
  obtain ⟨l, rfl⟩ : ∃ l : List UInt8, s = bs l := ⟨_, bs_of s⟩
  rw [bs_size]
  by_cases h : (l.length : Int) > 5000
  · exact Ev.yes h (Ev.ret rfl)
  · have hl : l.length ≤ 5000 := by omega
    refine Ev.no h (Ev.bind (rall_ev l (by omega)) (Ev.bind0 (all_f l (by omega)) (Ev.bind0 (all_f l (by omega)) (Ev.yes rfl (Ev.yes rfl ?_)))))
    rw [beq_self_eq_true, beq_self_eq_true]
    refine Ev.no (by simp) ?_
    refine Ev.step (fun k => by rw [casketlaw11_LexReads.j0]) ?_
    refine Ev.no (by simp) ?_
    have h1 := allT_len' l
    exact lr_l0 l hl a (allT l).1 (by omega) _ 0 (Nat.le_refl _) (Nat.zero_le _)
end Go.Proofs.YtjolkombhdibcaaDoor.Pure
namespace Go.Proofs.YtjolkombhdibcaaDoor.lexReads
open Go.ChangeShapes Go.WideShapes Go.ChangeAt Go.RowKit Go.Joins
open Go.ChangeMaps (open_string shut_string)
set_option linter.unusedVariables false
set_option maxRecDepth 100000 in
theorem lifted (os : Os) (started : os.Started) (H : Type) (enc : TypeId × Value → H) :
    ReturnsInHanded {} Tryd.checked os 3 .any (fun w args => (Rows.lexReadsSpec.pre enc Tryd.prog Tryd.f3 [] false w args ∧ laidMetH Tryd.prog Laid.laid w) ∧ sizedMet enc Tryd.prog Tryd.f3 (OpenSpec.ofChange Rows.lexReadsSpec) false w args) (Rows.lexReadsSpec.post enc Tryd.prog Tryd.f3 false true false false) := by
  refine returnsInHanded_of_change_and (C := Tryd.checked) (X := fun w _ => laidMetH Tryd.prog Laid.laid w) (fun _ _ _ hh h => h.of_heap hh) Laid.own started (by kernel_rfl) Tryd.func3
    (ChangeSpec.witness_shaped (enc := enc) (C := Tryd.checked) (os := os) (X := fun w _ => laidMetH Tryd.prog Laid.laid w) false (World.doorLaid Tryd.prog 62 os) #[.string ByteArray.empty, .int .i64 0] 8 rfl (World.shaped_of_RefB (by kernel_rfl) (by kernel_rfl)) (by kernel_rfl) (by kernel_rfl) (by kernel_rfl) (Laid.door_met os _)) ?_
  intro W base args ds gs before hval0 hW hcnd hsz0 hL _
  have hsz : (DataW.weightsEach Tryd.prog (Tryd.f3.params.toList ++ Rows.lexReadsSpec.plain.varTypes Tryd.prog) (ds ++ gs)).all (· ≤ reachBytes) = true := hsz0
  have hval : ∀ (j : Nat) t v, Tryd.f3.params[j]? = some t → args[j]? = some v → Value.okWide Tryd.prog W .any base t v := hval0
  have hW' := hW
  obtain ⟨p, q, hA0, hV, rfl, hfz, hnd⟩ := hW
  have hA : DataW.TrodAll enc Tryd.prog W 0 (fun _ => true) true Tryd.f3.params.toList args.toList ds p := hA0
  rw [Tryd.params3] at hA hval hsz
  obtain ⟨v0, vs0, d0, ds0, p0, q0, hargs, rfl, rfl, h0, r0⟩ := trodAll_cons hA
  obtain ⟨v1, vs1, d1, ds1, p1, q1, rfl, rfl, rfl, h1, r1⟩ := trodAll_cons r0
  obtain ⟨rfl, rfl, rfl⟩ := trodAll_nil r1
  obtain rfl : args = #[v0, v1] := by cases args; simp_all
  obtain ⟨rfl, rfl⟩ := trodVars_none hV
  have hG : Given.Glob W := Laid.of_laid hL
  obtain ⟨a0, rfl, rfl, rfl, y0⟩ := open_string Tryd.underlying9 (hval 0 9 v0 rfl rfl) h0
  have w0 : a0.size ≤ 140737488351232 := by
    have z := sized_string hsz (j := 0) (t := 9) rfl rfl
    rw [Array.length_toList] at z
    exact z
  obtain ⟨a1, rfl, rfl, rfl, w1⟩ := open_int Tryd.underlying3 (hval 1 3 v1 rfl rfl) h1
  clear hA0 hval0 hsz0 hsz
  refine (Print.casketlaw11_LexReads.walk Pure.LexReads a0 a1 W hG w0 w1).mono fun e W' ⟨he, bel⟩ => ?_
  subst he
  exact ⟨_, rfl, _, _, _, [], _, [], hW', trodAll_mk1 (shut_bool Tryd.underlying4 _), (trodAll_cons_mk (shut_string Tryd.underlying9 y0) (trodAll_cons_mk (shut_int Tryd.underlying3 w1) trodAll_mk0)), rfl, bel.frame _, fun h => by cases h⟩
theorem over : Rows.lexReadsRow.holds Tryd.pinned (OpenSpec.ofChange Rows.lexReadsSpec) :=
  OpenClaim.holds_of_wide 3 Tryd.f3 rfl rfl rfl rfl rfl rfl rfl ⟨rfl, rfl, rfl, rfl, rfl⟩ rfl rfl rfl rfl rfl (by kernel_rfl) Tryd.func3 (by kernel_rfl)
    (of_decide_eq_true (by kernel_rfl)) (by unfold Func.isWrapper; first | (rw [if_pos (by decide +kernel)]; kernel_rfl) | (rw [if_neg (by decide +kernel)]; exact ⟨rfl, rfl⟩))
    (fun os started H enc _ => lifted os started H enc)
theorem card_holds : Rows.LexReadsCardSaid :=
  Claim7.holds_tied_plain_at .later [] [.data, .data, .data, .sentinel, .sentinel] true (true, "431a033b8f36b9d9c52e85b2436dbd75d9d44333d6a5eb7a63f0f069f0875b74") true
    over (fun _ h => by cases h) (by kernel_rfl) (fun _ h => by cases h) lexReads_row_tie rfl ⟨rfl, rfl⟩ (by kernel_rfl) rfl
    (fun f fn hf hfn => by
      obtain rfl : f = 3 := Option.some.inj ((show Tryd.prog.funcNamed "casket/casketlaw11.LexReads" = some 3 by kernel_rfl).symm.trans hf) |>.symm
      obtain rfl : fn = Tryd.f3 := (Option.some.inj (Tryd.func3.symm.trans hfn)).symm
      exact ⟨by kernel_rfl, fun j t ht => by
        rw [Tryd.params3] at ht
        have hm : t ∈ [9, 3] := by simpa using Array.mem_of_getElem? ht
        have hall : ([9, 3].all fun u => !Tryd.prog.wantsStandIn u) = true := by kernel_rfl
        exact (show Tryd.prog.wantsStandIn t = false by simpa using List.all_eq_true.1 hall t hm)⟩)
    (by kernel_rfl)
#print axioms card_holds
end Go.Proofs.YtjolkombhdibcaaDoor.lexReads
namespace Go.Proofs.YtjolkombhdibcaaDoor
theorem lexReads_card : Rows.LexReadsCardSaid := lexReads.card_holds
end Go.Proofs.YtjolkombhdibcaaDoor
end
