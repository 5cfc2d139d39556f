/- Packed by a program of this session (wip/tools/pack.py): the declarations of its texts that this claim needs. Not trusted: Lean checks it. -/
import Derived.Test.YtjolkombhdibcaaDoorReaD
section
namespace Go.Proofs.YtjolkombhdibcaaDoor.Print
open Go.RowKit Go.Proofs.YtjolkombhdibcaaDoor.Given Go.Proofs.YtjolkombhdibcaaDoorW.PrintWords Go.Proofs.YtjolkombhdibcaaDoorW.PrintLast Go.Proofs.YtjolkombhdibcaaDoorW.PrintMore
attribute [local go_sem] max2_int min2_int max_two min_two max_three min_three max_four min_four
set_option linter.unusedVariables false
set_option linter.unusedSimpArgs false
theorem x61_13 {p : Prop} (h : p := by first | rfl | (simp; done) | (simp [*]; done)) : p := h
theorem x61_12 {p : Prop} (h : p := by first | (with_reducible assumption) | assumption) : p := h
theorem x61_11 {p : Prop} (h : p := by have := HK1.out; first | omega | exact Nat.le_refl _) : p := h
theorem x61_10 {p : Prop} (h : p := by have := HK1.out; have := HJ14.out; first | omega | exact Nat.le_refl _) : p := h
theorem x61_9 {p : Prop} (h : p := by have := HK1.out; have := HJ14.out; have := HJ29.out; first | omega | exact Nat.le_refl _) : p := h
theorem x61_8 {p : Prop} (h : p := by first | rfl | (simp; done) | (simp only [← hji31] <;> (first | rfl | simp)) | (simp [*]; done)) : p := h
theorem x61_7 {p : Prop} (h : p := by first | rfl | (simp [errW_none, errW_some] <;> rfl) | (simp [*, errW_none, errW_some] <;> rfl)) : p := h
theorem x61_6 {p : Prop} (h : p := by (with_reducible repeat first | apply blk_drewN | apply blk_drew | apply blk_alloc); exact BK321.out) : p := h
theorem x61_5 {p : Prop} (h : p := by (with_reducible repeat first | apply blk_drewN | apply blk_drew | apply blk_alloc); exact BK320.out) : p := h
theorem x61_4 {p : Prop} (h : p := by (with_reducible repeat (first | apply Kd.R_alloc | apply Kd.R_drewN | apply Kd.R_drew)); exact HO_7.out) : p := h
theorem x61_3 {p : Prop} (h : p := by repeat (first | (with_reducible first | exact HB.out | apply below_alloc | apply pw_below_drewN | apply below_drew1) | exact HB.out)) : p := h
theorem x61_2 {p : Prop} (h : p := by (try simp only [List.map_toArray, List.map_cons, List.map_nil]); first | done | rfl | (simp only [List.length_drop, List.length_take]; rfl)) : p := h
theorem x61_1 {p : Prop} (h : p := by repeat (first | (with_reducible first | exact HB.out | apply below_alloc | apply pw_below_drewN | apply below_drew1 | refine below_set ?_ GE320.out) | exact HB.out)) : p := h
theorem x61_0 {p : Prop} (h : p := by repeat (first | (with_reducible first | exact HB.out | apply below_alloc | apply pw_below_drewN | apply below_drew1 | refine below_set ?_ GE320.out | refine below_set ?_ GE321.out) | exact HB.out)) : p := h
mutual
def casketref11_text.l0 : Nat → ByteArray → Int → List Int → Int → Option (Int × Int × ByteArray × Int × Int × Int × Int × Int)
 | 0, _, _, _, _ => none
 | k + 1, x0, x1, x7, x8 => if x8 < (x0.size : Int) then (if 0 ≤ x8 then (if (bt x0 x8) = 34 then (some (6, x1, strOfNums x7, 0, 0, wrap64 (x8 + 1), 0, 0)) else (if (bt x0 x8) < 32 then (casketref11_text.j1 k x0 x1 x7 x8 (bt x0 x8) true) else (casketref11_text.j1 k x0 x1 x7 x8 (bt x0 x8) (decide ((bt x0 x8) > 126))))) else (none)) else ((casketref11_fault.f 61 x1).bind fun bt325 => (some (bt325.1, bt325.2.1, bt325.2.2.1, bt325.2.2.2.1, bt325.2.2.2.2.1, bt325.2.2.2.2.2.1, bt325.2.2.2.2.2.2.1, bt325.2.2.2.2.2.2.2)))
def casketref11_text.j1 : Nat → ByteArray → Int → List Int → Int → Int → Bool → Option (Int × Int × ByteArray × Int × Int × Int × Int × Int)
 | 0, _, _, _, _, _, _ => none
 | k + 1, x0, x1, x7, x8, x9, x36 => if x36 = true then ((casketref11_fault.f 61 x1).bind fun bt333 => (some (bt333.1, bt333.2.1, bt333.2.2.1, bt333.2.2.2.1, bt333.2.2.2.2.1, bt333.2.2.2.2.2.1, bt333.2.2.2.2.2.2.1, bt333.2.2.2.2.2.2.2))) else (if x9 = 92 then (if (wrap64 (x8 + 1)) = (x0.size : Int) then ((casketref11_fault.f 61 x1).bind fun bt344 => (some (bt344.1, bt344.2.1, bt344.2.2.1, bt344.2.2.2.1, bt344.2.2.2.2.1, bt344.2.2.2.2.2.1, bt344.2.2.2.2.2.2.1, bt344.2.2.2.2.2.2.2))) else (if 0 ≤ (wrap64 (x8 + 1)) then (if (wrap64 (x8 + 1)) < (x0.size : Int) then (if (bt x0 (wrap64 (x8 + 1))) = 92 then (casketref11_text.j2 k x0 x1 x7 (wrap64 (x8 + 1)) true) else (casketref11_text.j2 k x0 x1 x7 (wrap64 (x8 + 1)) ((bt x0 (wrap64 (x8 + 1))) == 34))) else (none)) else (none))) else (if x7.length < 140737488355328 then (casketref11_text.l0 k x0 x1 (x7 ++ [x9]) (wrap64 (x8 + 1))) else (none)))
def casketref11_text.j2 : Nat → ByteArray → Int → List Int → Int → Bool → Option (Int × Int × ByteArray × Int × Int × Int × Int × Int)
 | 0, _, _, _, _, _ => none
 | k + 1, x0, x1, x7, x8, x58 => if x58 = true then (if 0 ≤ x8 then (if x8 < (x0.size : Int) then (if x7.length < 140737488355328 then (casketref11_text.l0 k x0 x1 (x7 ++ [bt x0 x8]) (wrap64 (x8 + 1))) else (none)) else (none)) else (none)) else (if 0 ≤ x8 then (if x8 < (x0.size : Int) then (if (bt x0 x8) = 110 then (if x7.length < 140737488355328 then (casketref11_text.l0 k x0 x1 (x7 ++ [10]) (wrap64 (x8 + 1))) else (none)) else (if (bt x0 x8) = 120 then (if (wrap64 (x8 + 2)) < (x0.size : Int) then (if 0 ≤ (wrap64 (x8 + 1)) then (if (wrap64 (x8 + 1)) < (x0.size : Int) then ((casketref11_hex.f (bt x0 (wrap64 (x8 + 1)))).bind fun t358 => (if t358 ≥ 0 then (if 0 ≤ (wrap64 (x8 + 2)) then ((casketref11_hex.f (bt x0 (wrap64 (x8 + 2)))).bind fun t359 => (casketref11_text.j3 k x0 x1 x7 x8 (decide (t359 ≥ 0)))) else (none)) else (casketref11_text.j3 k x0 x1 x7 x8 false))) else (none)) else (none)) else (casketref11_text.j3 k x0 x1 x7 x8 false)) else (casketref11_text.j3 k x0 x1 x7 x8 false))) else (none)) else (none))
def casketref11_text.j3 : Nat → ByteArray → Int → List Int → Int → Bool → Option (Int × Int × ByteArray × Int × Int × Int × Int × Int)
 | 0, _, _, _, _, _ => none
 | k + 1, x0, x1, x7, x8, x98 => if x98 = true then (if 0 ≤ (wrap64 (x8 + 1)) then (if (wrap64 (x8 + 1)) < (x0.size : Int) then ((casketref11_hex.f (bt x0 (wrap64 (x8 + 1)))).bind fun t360 => (if 0 ≤ (wrap64 (x8 + 2)) then (if (wrap64 (x8 + 2)) < (x0.size : Int) then ((casketref11_hex.f (bt x0 (wrap64 (x8 + 2)))).bind fun t361 => (if x7.length < 140737488355328 then (casketref11_text.l0 k x0 x1 (x7 ++ [(wrap64 ((wrap64 (16 * t360)) + t361)) % 256]) (wrap64 ((wrap64 (x8 + 2)) + 1))) else (none))) else (none)) else (none))) else (none)) else (none)) else ((casketref11_fault.f 61 x1).bind fun bt365 => (some (bt365.1, bt365.2.1, bt365.2.2.1, bt365.2.2.2.1, bt365.2.2.2.2.1, bt365.2.2.2.2.2.1, bt365.2.2.2.2.2.2.1, bt365.2.2.2.2.2.2.2)))
end
def casketref11_text.f (k : Nat) (a0 : ByteArray) (a1 : Int) : Option (Int × Int × ByteArray × Int × Int × Int × Int × Int) := casketref11_text.l0 k a0 a1 (([] : List Int)) (wrap64 (a1 + 1))
def casketref11_text.T18 : Bool × List (List Nat × List Nat) := (true, [([], []), ([], []), ([], []), ([2], [2]), ([1, 3], [1, 3]), ([4], [4]), ([5], [5]), ([], []), ([], []), ([8], [8]), ([7, 9], [7, 9]), ([10, 5], [10]), ([6, 11], [6, 11]), ([12], [12]), ([13], [13]), ([0, 14, 11], [0, 14]), ([15, 15, 0, 1, 2, 3, 4, 5, 6, 7, 8, 9, 10, 11, 12, 13, 14, 15], [0, 15])])
def casketref11_text.B18 : List Nat := [0, 0, 0, 4, 14, 30, 62, 0, 0, 256, 896, 1982, 4094, 8190, 16382, 32767, 65535]
theorem casketref11_text.tab18 : rtab .any (opsOf Tryd.f32 18) = casketref11_text.T18 := by kernel_rfl
theorem casketref11_text.bits18 : waitsOk casketref11_text.T18.2 casketref11_text.B18 = true := by kernel_rfl
set_option maxHeartbeats 8000000 in
set_option maxRecDepth 100000 in
theorem casketref11_text.calls (k : Nat) (a0 : ByteArray) (a1 : Int) (r1 : Int) (r2 : Int) (r3 : ByteArray) (r4 : Int) (r5 : Int) (r6 : Int) (r7 : Int) (r8 : Int) (w : World) (h : casketref11_text.f k a0 a1 = some (r1, r2, r3, r4, r5, r6, r7, r8)) :
  Calls Tryd.prog 32 #[.string a0, .int .i64 a1] w fun e w' => e = .returned (.tuple #[.agg #[.int .i64 r1, .int .i64 r2, .string r3, .int .i64 r4, .int .u64 r5], .int .i64 r6, .agg #[.int .i64 r7, .int .i64 r8]]) ∧ Below w.heap.size w w' := by
 have hu30 := Tryd.underlying30
 have hu25 := Tryd.underlying25
 have HB := Aside0.mk (Below.refl w.heap.size w)
 have H : (casketref11_text.l0 k a0 a1 (([] : List Int)) (wrap64 (a1 + 1))) = some (r1, r2, r3, r4, r5, r6, r7, r8) := h
 clear h
 obtain ⟨y322, hy322⟩ : ∃ y_ : List Int, y_ = (([] : List Int)) := ⟨_, rfl⟩
 replace H : (casketref11_text.l0 k a0 a1 y322 (wrap64 (a1 + 1))) = some (r1, r2, r3, r4, r5, r6, r7, r8) := by first | (rw [hy322]; with_reducible exact H) | (have H2_ := (Option.bind_some _ _).symm.trans H; rw [hy322]; with_reducible exact H2_) | (have H2_ := (Option.bind_some _ _).symm.trans H; with_reducible exact H2_) | with_reducible exact H | (rw [hy322]; exact H) | exact H
 have Ny322 := Aside0.mk hy322
 clear hy322
 have H' := Aside0.mk H
 clear H
 go_enter Tryd.func32, Tryd.ntmps32
 go_wp2_with (first | ((with_reducible refine gate_dst (N := 4) rfl ?_); (try (refine gate_guard (by rfl) ?_; dsimp only)); refine box_event ?hg (N := 4) ?hd (cs := #[.int .i64 0, .int .i64 0, .string (⟨#[]⟩ : ByteArray), .int .i64 0, .int .u64 0]) (t := 30) ?hr ?_; (case hd => rfl); (case hg => rfl); (case hr => first | (go_simp; done) | (go_simp; rfl)); intro gb320 hg w3 hbox hb; have n0_ := Aside0.mk (below_step x61_3 hb); have n1_ := Aside0.mk (hbox); have n2_ := Aside0.mk ((by rw [hg]; exact (below_size x61_3) : w.heap.size ≤ gb320)); have n3_ := Aside0.mk ((by rw [hg]; exact (below_size x61_3) : w.heap.size ≤ gb320)); clear HB; have HB := n0_; have BK320 := n1_; have GW320 := n2_; have GE320 := n3_; clear n0_ n1_ n2_ n3_; clear hb hbox hg) | ((with_reducible refine gate_dst (N := 6) rfl ?_); (try (refine gate_guard (by rfl) ?_; dsimp only)); refine box_event ?hg (N := 6) ?hd (cs := #[.int .i64 0, .int .i64 0]) (t := 25) ?hr ?_; (case hd => rfl); (case hg => rfl); (case hr => first | (go_simp; done) | (go_simp; rfl)); intro gb321 hg w4 hbox hb; have n0_ := Aside0.mk (blk_below (g := gb320) (o := .cells #[.int .i64 0, .int .i64 0, .string (⟨#[]⟩ : ByteArray), .int .i64 0, .int .u64 0] 30 (0, 0)) x61_5 hb); have n1_ := Aside0.mk (below_step x61_1 hb); have n2_ := Aside0.mk (hbox); have n3_ := Aside0.mk ((by rw [hg]; exact (below_size x61_1) : w.heap.size ≤ gb321)); have n4_ := Aside0.mk ((by rw [hg]; exact (below_size x61_1) : w.heap.size ≤ gb321)); have n5_ := Aside0.mk ((by rw [hg]; exact Nat.ne_of_lt (blk_lt (g := gb320) (o := .cells #[.int .i64 0, .int .i64 0, .string (⟨#[]⟩ : ByteArray), .int .i64 0, .int .u64 0] 30 (0, 0)) x61_5) : gb320 ≠ gb321)); have n6_ := Aside0.mk ((by rw [hg]; exact Nat.ne_of_gt (blk_lt (g := gb320) (o := .cells #[.int .i64 0, .int .i64 0, .string (⟨#[]⟩ : ByteArray), .int .i64 0, .int .u64 0] 30 (0, 0)) x61_5) : gb321 ≠ gb320)); clear BK320; clear HB; have BK320 := n0_; have HB := n1_; have BK321 := n2_; have GW321 := n3_; have GE321 := n4_; have NB320_321 := n5_; have NB321_320 := n6_; clear n0_ n1_ n2_ n3_ n4_ n5_ n6_; clear hb hbox hg) | ((with_reducible refine gate_dst (N := 10) rfl ?_); (try (refine gate_guard (by rfl) ?_; dsimp only)); refine Kd.R_lit (Kd.int .u8) _ 5 ?hg (N := 10) ?hd (xs := ([] : List Int)) (inner := []) (ok := fun _ => True) (okp := fun _ => True) ?hr ?hp (fun _ hk => hk) trivial (Below.refl _ _) (Nat.le_refl _) (by simp) ?_; (case hd => rfl); (case hg => rfl); (case hr => first | (go_simp; done) | (go_simp; rfl)); (case hp => exact (Reps.none _ _)); intro v323 w5 ho6 hb hg_ hnew_; clear hg_ hnew_; (first | rw [← Ny322.out] at ho6 | (simp only [Int.reduceToNat] at ho6; rw [← Ny322.out] at ho6)); have n0_ := Aside0.mk (Kd.R_lower ho6 (below_size x61_0)); have n1_ := Aside0.mk (blk_below (g := gb320) (o := .cells #[.int .i64 0, .int .i64 0, .string (⟨#[]⟩ : ByteArray), .int .i64 0, .int .u64 0] 30 (0, 0)) x61_5 hb); have n2_ := Aside0.mk (blk_below (g := gb321) (o := .cells #[.int .i64 0, .int .i64 0] 25 (0, 0)) x61_6 hb); have n3_ := Aside0.mk (below_step x61_0 hb); clear BK320; clear BK321; clear HB; have HO324 := n0_; have BK320 := n1_; have BK321 := n2_; have HB := n3_; clear n0_ n1_ n2_ n3_; clear hb ho6))
 go_loopg [7, 8] k (fun kq v7 v8 w' => ∃ (x7_1 : List Int) (x8_1 : Int) (x321000_1 : Int) (x321001_1 : Int) (x321002_1 : ByteArray) (x321003_1 : Int) (x321004_1 : Int) (x322000_1 : Int) (x322001_1 : Int), v8 = .int .i64 x8_1 ∧ Aside0 (casketref11_text.l0 kq a0 a1 x7_1 x8_1 = some (r1, r2, r3, r4, r5, r6, r7, r8)) ∧ Aside0 (kq ≤ k) ∧ Aside0 (Kd.R (Kd.int .u8) 5 w' w.heap.size (fun _ => True) v7 x7_1) ∧ Aside0 (w'.heap[gb320]? = some (.cells #[.int .i64 x321000_1, .int .i64 x321001_1, .string x321002_1, .int .i64 x321003_1, .int .u64 x321004_1] 30 (0, 0))) ∧ Aside0 (w'.heap[gb321]? = some (.cells #[.int .i64 x322000_1, .int .i64 x322001_1] 25 (0, 0))) ∧ Aside0 (Below w.heap.size w w'))
 case atStart => exact ⟨(y322), (wrap64 (a1 + 1)), (0), (0), ((⟨#[]⟩ : ByteArray)), (0), (0), (0), (0), x61_13, H', ⟨Nat.le_refl _⟩, ⟨by (with_reducible repeat (first | apply Kd.R_alloc | apply Kd.R_drewN | apply Kd.R_drew)); exact HO324.out⟩, ⟨x61_5⟩, ⟨x61_6⟩, ⟨x61_0⟩⟩
 case round =>
  clear H'
  obtain ⟨x7_1, x8_1, x321000_1, x321001_1, x321002_1, x321003_1, x321004_1, x322000_1, x322001_1, rfl, HA, HK1, HO_7, BK320, BK321, HB⟩ := hrel
  cases gk with
  | zero => exact absurd HA.out (by simp [casketref11_text.l0])
  | succ k1 =>
   have H := HA.out
   clear HA
   simp only [casketref11_text.l0] at H
   by_cases c7 : x8_1 < (a0.size : Int)
   ·rw [if_pos c7] at H
    have c7b0 := decide_eq_true c7
    clear c7
    by_cases c8 : 0 ≤ x8_1
    ·rw [if_pos c8] at H
     have c8b0 := decide_eq_true c8
     clear c8
     by_cases c10 : (bt a0 x8_1) = 34
     ·rw [if_pos c10] at H
      have c10b0 := beq_iff_eq.mpr c10
      have c10b1 := bne_eq_false_iff_eq.mpr c10
      clear c10
      simp only [Option.some.injEq, Prod.mk.injEq] at H
      obtain ⟨rfl, rfl, rfl, rfl, rfl, rfl, rfl, rfl⟩ := H
      have p9 : 0 ≤ (x8_1 : Int) := of_decide_eq_true x61_12
      have q9 : x8_1 < (a0.size : Int) := of_decide_eq_true x61_12
      have hx9 := bt_at a0 x8_1
      replace p9 := eq_true p9
      replace q9 := eq_true q9
      have hcv11 := own_string (P := Tryd.prog) Tryd.underlying36 Tryd.underlying5 Tryd.underlying9 (Kd.own_of_R HO_7.out)
      have hnb12 := NB320_321.out
      have hnc12 := NB321_320.out
      have hcz13_0 : wr.cell? ⟨gb320, 0, none⟩ = some (.int .i64 x321000_1) := (blk_cell BK320.out 0).trans rfl
      have hcz13_1 : wr.cell? ⟨gb320, 1, none⟩ = some (.int .i64 x321001_1) := (blk_cell BK320.out 1).trans rfl
      have hcz13_2 : wr.cell? ⟨gb320, 2, none⟩ = some (.string x321002_1) := (blk_cell BK320.out 2).trans rfl
      have hcz13_3 : wr.cell? ⟨gb320, 3, none⟩ = some (.int .i64 x321003_1) := (blk_cell BK320.out 3).trans rfl
      have hcz13_4 : wr.cell? ⟨gb320, 4, none⟩ = some (.int .u64 x321004_1) := (blk_cell BK320.out 4).trans rfl
      have hfz13_0 := blk_frozen BK320.out 0
      have hfz13_1 := blk_frozen BK320.out 1
      have hfz13_2 := blk_frozen BK320.out 2
      have hfz13_3 := blk_frozen BK320.out 3
      have hfz13_4 := blk_frozen BK320.out 4
      have hcz14_0 : wr.cell? ⟨gb321, 0, none⟩ = some (.int .i64 x322000_1) := (blk_cell BK321.out 0).trans rfl
      have hcz14_1 : wr.cell? ⟨gb321, 1, none⟩ = some (.int .i64 x322001_1) := (blk_cell BK321.out 1).trans rfl
      have hfz14_0 := blk_frozen BK321.out 0
      have hfz14_1 := blk_frozen BK321.out 1
      go_wp2
      refine bodyPost_ret (results_list (rs := [.cell 4 30, .tmp 5, .cell 6 25]) rfl (by simp) (.cell gb320 30 #[.int .i64 6, .int .i64 a1, .string (strOfNums x7_1), .int .i64 0, .int .u64 0] (0, 0) _ rfl (by (with_reducible repeat first | apply blk_drewN | apply blk_drew | apply blk_alloc); refine blk_far ?_ NB320_321.out _; (with_reducible repeat first | apply blk_drewN | apply blk_drew | apply blk_alloc); refine blk_far ?_ NB320_321.out _; (with_reducible repeat first | apply blk_drewN | apply blk_drew | apply blk_alloc); refine blk_put (cs := #[.int .i64 6, .int .i64 a1, .string (strOfNums x7_1), .int .i64 0, .int .u64 x321004_1]) ?_ 4 _ rfl; (with_reducible repeat first | apply blk_drewN | apply blk_drew | apply blk_alloc); refine blk_put (cs := #[.int .i64 6, .int .i64 a1, .string (strOfNums x7_1), .int .i64 x321003_1, .int .u64 x321004_1]) ?_ 3 _ rfl; (with_reducible repeat first | apply blk_drewN | apply blk_drew | apply blk_alloc); refine blk_put (cs := #[.int .i64 6, .int .i64 a1, .string x321002_1, .int .i64 x321003_1, .int .u64 x321004_1]) ?_ 2 _ rfl; (with_reducible repeat first | apply blk_drewN | apply blk_drew | apply blk_alloc); refine blk_put (cs := #[.int .i64 6, .int .i64 x321001_1, .string x321002_1, .int .i64 x321003_1, .int .u64 x321004_1]) ?_ 1 _ rfl; (with_reducible repeat first | apply blk_drewN | apply blk_drew | apply blk_alloc); refine blk_put (cs := #[.int .i64 x321000_1, .int .i64 x321001_1, .string x321002_1, .int .i64 x321003_1, .int .u64 x321004_1]) ?_ 0 _ rfl; (with_reducible repeat first | apply blk_drewN | apply blk_drew | apply blk_alloc); exact BK320.out) Tryd.underlying30 rfl (by kernel_rfl) (.tmp (.cell gb321 25 #[.int .i64 0, .int .i64 0] (0, 0) _ rfl (by (with_reducible repeat first | apply blk_drewN | apply blk_drew | apply blk_alloc); refine blk_put (cs := #[.int .i64 0, .int .i64 x322001_1]) ?_ 1 _ rfl; (with_reducible repeat first | apply blk_drewN | apply blk_drew | apply blk_alloc); refine blk_put (cs := #[.int .i64 x322000_1, .int .i64 x322001_1]) ?_ 0 _ rfl; (with_reducible repeat first | apply blk_drewN | apply blk_drew | apply blk_alloc); refine blk_far ?_ NB321_320.out _; (with_reducible repeat first | apply blk_drewN | apply blk_drew | apply blk_alloc); refine blk_far ?_ NB321_320.out _; (with_reducible repeat first | apply blk_drewN | apply blk_drew | apply blk_alloc); refine blk_far ?_ NB321_320.out _; (with_reducible repeat first | apply blk_drewN | apply blk_drew | apply blk_alloc); refine blk_far ?_ NB321_320.out _; (with_reducible repeat first | apply blk_drewN | apply blk_drew | apply blk_alloc); refine blk_far ?_ NB321_320.out _; (with_reducible repeat first | apply blk_drewN | apply blk_drew | apply blk_alloc); exact BK321.out) Tryd.underlying25 rfl (by kernel_rfl) .nil)))) rfl ?_
      exact ⟨x61_7, x61_0⟩
     ·rw [if_neg c10] at H
      have c10b0 := beq_eq_false_iff_ne.mpr c10
      have c10b1 := bne_iff_ne.mpr c10
      have HC15 := Aside0.mk H
      clear H
      have p9 : 0 ≤ (x8_1 : Int) := of_decide_eq_true x61_12
      have q9 : x8_1 < (a0.size : Int) := of_decide_eq_true x61_12
      have hx9 := bt_at a0 x8_1
      replace p9 := eq_true p9
      replace q9 := eq_true q9
      go_upto_region 8 with (fail)
      go_cut [36] (fun v36 wc => ∃ (kq : Nat) (x36_14 : Bool), v36 = .bool x36_14 ∧ Aside0 (casketref11_text.j1 kq a0 a1 x7_1 x8_1 (bt a0 x8_1) x36_14 = some (r1, r2, r3, r4, r5, r6, r7, r8)) ∧ Aside0 (kq ≤ k1) ∧ Aside0 (Kd.R (Kd.int .u8) 5 wc w.heap.size (fun _ => True) u7 x7_1) ∧ Aside0 (wc.heap[gb320]? = some (.cells #[.int .i64 x321000_1, .int .i64 x321001_1, .string x321002_1, .int .i64 x321003_1, .int .u64 x321004_1] 30 (0, 0))) ∧ Aside0 (wc.heap[gb321]? = some (.cells #[.int .i64 x322000_1, .int .i64 x322001_1] 25 (0, 0))) ∧ Aside0 (Below w.heap.size w wc))
      case first =>
       have H := HC15.out
       clear HC15
       by_cases c16 : (bt a0 x8_1) < 32
       ·rw [if_pos c16] at H
        have c16b0 := decide_eq_true c16
        clear c16
        (first | rw [c16b0] | (simp only [i64_w, i32_w]; rw [c16b0]) | skip)
        have H' := Aside0.mk H
        clear H
        go_wp2
        first
        | (go_meet; case rel => exact ⟨_, (true), x61_13, H', ⟨x61_11⟩, ⟨x61_4⟩, ⟨x61_5⟩, ⟨x61_6⟩, ⟨x61_0⟩⟩)
        | (go_meet; case rel => simp only []; exact ⟨_, (true), x61_13, H', ⟨x61_11⟩, ⟨x61_4⟩, ⟨x61_5⟩, ⟨x61_6⟩, ⟨x61_0⟩⟩)
        | ((try subst hji31); (try subst hji38); (try subst hji44); (try subst hji55); (try subst hji61); (try subst hji66); (try subst hji71); go_meet; case rel => exact ⟨_, (true), x61_13, H', ⟨x61_11⟩, ⟨x61_4⟩, ⟨x61_5⟩, ⟨x61_6⟩, ⟨x61_0⟩⟩)
       ·rw [if_neg c16] at H
        have c16b0 := decide_eq_false c16
        clear c16
        (first | rw [c16b0] | (simp only [i64_w, i32_w]; rw [c16b0]) | skip)
        have H' := Aside0.mk H
        clear H
        go_wp2
        first
        | (go_meet; case rel => exact ⟨_, (decide ((bt a0 x8_1) > 126)), x61_13, H', ⟨x61_11⟩, ⟨x61_4⟩, ⟨x61_5⟩, ⟨x61_6⟩, ⟨x61_0⟩⟩)
        | (go_meet; case rel => simp only []; exact ⟨_, (decide ((bt a0 x8_1) > 126)), x61_13, H', ⟨x61_11⟩, ⟨x61_4⟩, ⟨x61_5⟩, ⟨x61_6⟩, ⟨x61_0⟩⟩)
        | ((try subst hji31); (try subst hji38); (try subst hji44); (try subst hji55); (try subst hji61); (try subst hji66); (try subst hji71); go_meet; case rel => exact ⟨_, (decide ((bt a0 x8_1) > 126)), x61_13, H', ⟨x61_11⟩, ⟨x61_4⟩, ⟨x61_5⟩, ⟨x61_6⟩, ⟨x61_0⟩⟩)
      case rest =>
       clear HC15
       obtain ⟨kq, x36_14, rfl, HA, HJ14, HO_7, BK320, BK321, HB⟩ := hcut
       cases kq with
       | zero => exact absurd HA.out (by simp [casketref11_text.j1])
       | succ kj14 =>
        have H := HA.out
        clear HA
        simp only [casketref11_text.j1] at H
        by_cases c17 : x36_14 = true
        ·subst c17
         rw [if_pos rfl] at H
         replace H := Option.bind_eq_some_iff.mp H
         obtain ⟨⟨t333, t334, t335, t336, t337, t338, t339, t340⟩, A180, H⟩ := H
         replace H : (some (t333, t334, t335, t336, t337, t338, t339, t340)) = some (r1, r2, r3, r4, r5, r6, r7, r8) := H
         have A18 := Aside0.mk A180
         clear A180
         simp only [Option.some.injEq, Prod.mk.injEq] at H
         obtain ⟨rfl, rfl, rfl, rfl, rfl, rfl, rfl, rfl⟩ := H
         go_wp2_with (first | ((with_reducible refine gate_callee (f := 34) rfl ?_); refine goesL_ (some 118) rfl rfl Tryd.func34 (by kernel_rfl) rfl #[.int .i64 61, .int .i64 a1] rfl x61_2 ?_; (with_reducible refine (casketref11_fault.calls 61 a1 t333 t334 t335 t336 t337 t338 t339 t340 _ A18.out).mono ?_); rintro e w19 ⟨rfl, hb⟩; refine ⟨_, rfl, ?_⟩; have n0_ := Aside0.mk (Kd.R_below x61_4 hb); have n1_ := Aside0.mk (blk_below (g := gb320) (o := .cells #[.int .i64 x321000_1, .int .i64 x321001_1, .string x321002_1, .int .i64 x321003_1, .int .u64 x321004_1] 30 (0, 0)) x61_5 hb); have n2_ := Aside0.mk (blk_below (g := gb321) (o := .cells #[.int .i64 x322000_1, .int .i64 x322001_1] 25 (0, 0)) x61_6 hb); have n3_ := Aside0.mk (below_step x61_0 hb); clear HO_7; clear BK320; clear BK321; clear HB; have HO_7 := n0_; have BK320 := n1_; have BK321 := n2_; have HB := n3_; clear n0_ n1_ n2_ n3_; have hnb20 := NB320_321.out; have hnc20 := NB321_320.out; have hcz21_0 : w19.cell? ⟨gb320, 0, none⟩ = some (.int .i64 x321000_1) := (blk_cell BK320.out 0).trans rfl; have hcz21_1 : w19.cell? ⟨gb320, 1, none⟩ = some (.int .i64 x321001_1) := (blk_cell BK320.out 1).trans rfl; have hcz21_2 : w19.cell? ⟨gb320, 2, none⟩ = some (.string x321002_1) := (blk_cell BK320.out 2).trans rfl; have hcz21_3 : w19.cell? ⟨gb320, 3, none⟩ = some (.int .i64 x321003_1) := (blk_cell BK320.out 3).trans rfl; have hcz21_4 : w19.cell? ⟨gb320, 4, none⟩ = some (.int .u64 x321004_1) := (blk_cell BK320.out 4).trans rfl; have hfz21_0 := blk_frozen BK320.out 0; have hfz21_1 := blk_frozen BK320.out 1; have hfz21_2 := blk_frozen BK320.out 2; have hfz21_3 := blk_frozen BK320.out 3; have hfz21_4 := blk_frozen BK320.out 4; have hcz22_0 : w19.cell? ⟨gb321, 0, none⟩ = some (.int .i64 x322000_1) := (blk_cell BK321.out 0).trans rfl; have hcz22_1 : w19.cell? ⟨gb321, 1, none⟩ = some (.int .i64 x322001_1) := (blk_cell BK321.out 1).trans rfl; have hfz22_0 := blk_frozen BK321.out 0; have hfz22_1 := blk_frozen BK321.out 1))
         refine bodyPost_ret (results_list (rs := [.cell 4 30, .tmp 5, .cell 6 25]) rfl (by simp) (.cell gb320 30 #[.int .i64 t333, .int .i64 t334, .string t335, .int .i64 t336, .int .u64 t337] (0, 0) _ rfl (by (with_reducible repeat first | apply blk_drewN | apply blk_drew | apply blk_alloc); refine blk_far ?_ NB320_321.out _; (with_reducible repeat first | apply blk_drewN | apply blk_drew | apply blk_alloc); refine blk_far ?_ NB320_321.out _; (with_reducible repeat first | apply blk_drewN | apply blk_drew | apply blk_alloc); refine blk_put (cs := #[.int .i64 t333, .int .i64 t334, .string t335, .int .i64 t336, .int .u64 x321004_1]) ?_ 4 _ rfl; (with_reducible repeat first | apply blk_drewN | apply blk_drew | apply blk_alloc); refine blk_put (cs := #[.int .i64 t333, .int .i64 t334, .string t335, .int .i64 x321003_1, .int .u64 x321004_1]) ?_ 3 _ rfl; (with_reducible repeat first | apply blk_drewN | apply blk_drew | apply blk_alloc); refine blk_put (cs := #[.int .i64 t333, .int .i64 t334, .string x321002_1, .int .i64 x321003_1, .int .u64 x321004_1]) ?_ 2 _ rfl; (with_reducible repeat first | apply blk_drewN | apply blk_drew | apply blk_alloc); refine blk_put (cs := #[.int .i64 t333, .int .i64 x321001_1, .string x321002_1, .int .i64 x321003_1, .int .u64 x321004_1]) ?_ 1 _ rfl; (with_reducible repeat first | apply blk_drewN | apply blk_drew | apply blk_alloc); refine blk_put (cs := #[.int .i64 x321000_1, .int .i64 x321001_1, .string x321002_1, .int .i64 x321003_1, .int .u64 x321004_1]) ?_ 0 _ rfl; (with_reducible repeat first | apply blk_drewN | apply blk_drew | apply blk_alloc); exact BK320.out) Tryd.underlying30 rfl (by kernel_rfl) (.tmp (.cell gb321 25 #[.int .i64 t339, .int .i64 t340] (0, 0) _ rfl (by (with_reducible repeat first | apply blk_drewN | apply blk_drew | apply blk_alloc); refine blk_put (cs := #[.int .i64 t339, .int .i64 x322001_1]) ?_ 1 _ rfl; (with_reducible repeat first | apply blk_drewN | apply blk_drew | apply blk_alloc); refine blk_put (cs := #[.int .i64 x322000_1, .int .i64 x322001_1]) ?_ 0 _ rfl; (with_reducible repeat first | apply blk_drewN | apply blk_drew | apply blk_alloc); refine blk_far ?_ NB321_320.out _; (with_reducible repeat first | apply blk_drewN | apply blk_drew | apply blk_alloc); refine blk_far ?_ NB321_320.out _; (with_reducible repeat first | apply blk_drewN | apply blk_drew | apply blk_alloc); refine blk_far ?_ NB321_320.out _; (with_reducible repeat first | apply blk_drewN | apply blk_drew | apply blk_alloc); refine blk_far ?_ NB321_320.out _; (with_reducible repeat first | apply blk_drewN | apply blk_drew | apply blk_alloc); refine blk_far ?_ NB321_320.out _; (with_reducible repeat first | apply blk_drewN | apply blk_drew | apply blk_alloc); exact BK321.out) Tryd.underlying25 rfl (by kernel_rfl) .nil)))) rfl ?_
         exact ⟨x61_7, x61_0⟩
        ·replace c17 := Bool.eq_false_iff.mpr c17
         subst c17
         rw [if_neg (show ¬ (false = true) by decide)] at H
         by_cases c23 : (bt a0 x8_1) = 92
         ·rw [if_pos c23] at H
          have c23b0 := beq_iff_eq.mpr c23
          have c23b1 := bne_eq_false_iff_eq.mpr c23
          clear c23
          by_cases c24 : (wrap64 (x8_1 + 1)) = (a0.size : Int)
          ·rw [if_pos c24] at H
           have c24b0 := beq_iff_eq.mpr c24
           have c24b1 := bne_eq_false_iff_eq.mpr c24
           clear c24
           replace H := Option.bind_eq_some_iff.mp H
           obtain ⟨⟨t344, t345, t346, t347, t348, t349, t350, t351⟩, A250, H⟩ := H
           replace H : (some (t344, t345, t346, t347, t348, t349, t350, t351)) = some (r1, r2, r3, r4, r5, r6, r7, r8) := H
           have A25 := Aside0.mk A250
           clear A250
           simp only [Option.some.injEq, Prod.mk.injEq] at H
           obtain ⟨rfl, rfl, rfl, rfl, rfl, rfl, rfl, rfl⟩ := H
           go_wp2_with (first | ((with_reducible refine gate_callee (f := 34) rfl ?_); refine goesL_ (some 118) rfl rfl Tryd.func34 (by kernel_rfl) rfl #[.int .i64 61, .int .i64 a1] rfl x61_2 ?_; (with_reducible refine (casketref11_fault.calls 61 a1 t344 t345 t346 t347 t348 t349 t350 t351 _ A25.out).mono ?_); rintro e w26 ⟨rfl, hb⟩; refine ⟨_, rfl, ?_⟩; have n0_ := Aside0.mk (Kd.R_below x61_4 hb); have n1_ := Aside0.mk (blk_below (g := gb320) (o := .cells #[.int .i64 x321000_1, .int .i64 x321001_1, .string x321002_1, .int .i64 x321003_1, .int .u64 x321004_1] 30 (0, 0)) x61_5 hb); have n2_ := Aside0.mk (blk_below (g := gb321) (o := .cells #[.int .i64 x322000_1, .int .i64 x322001_1] 25 (0, 0)) x61_6 hb); have n3_ := Aside0.mk (below_step x61_0 hb); clear HO_7; clear BK320; clear BK321; clear HB; have HO_7 := n0_; have BK320 := n1_; have BK321 := n2_; have HB := n3_; clear n0_ n1_ n2_ n3_; have hnb27 := NB320_321.out; have hnc27 := NB321_320.out; have hcz28_0 : w26.cell? ⟨gb320, 0, none⟩ = some (.int .i64 x321000_1) := (blk_cell BK320.out 0).trans rfl; have hcz28_1 : w26.cell? ⟨gb320, 1, none⟩ = some (.int .i64 x321001_1) := (blk_cell BK320.out 1).trans rfl; have hcz28_2 : w26.cell? ⟨gb320, 2, none⟩ = some (.string x321002_1) := (blk_cell BK320.out 2).trans rfl; have hcz28_3 : w26.cell? ⟨gb320, 3, none⟩ = some (.int .i64 x321003_1) := (blk_cell BK320.out 3).trans rfl; have hcz28_4 : w26.cell? ⟨gb320, 4, none⟩ = some (.int .u64 x321004_1) := (blk_cell BK320.out 4).trans rfl; have hfz28_0 := blk_frozen BK320.out 0; have hfz28_1 := blk_frozen BK320.out 1; have hfz28_2 := blk_frozen BK320.out 2; have hfz28_3 := blk_frozen BK320.out 3; have hfz28_4 := blk_frozen BK320.out 4; have hcz29_0 : w26.cell? ⟨gb321, 0, none⟩ = some (.int .i64 x322000_1) := (blk_cell BK321.out 0).trans rfl; have hcz29_1 : w26.cell? ⟨gb321, 1, none⟩ = some (.int .i64 x322001_1) := (blk_cell BK321.out 1).trans rfl; have hfz29_0 := blk_frozen BK321.out 0; have hfz29_1 := blk_frozen BK321.out 1))
           refine bodyPost_ret (results_list (rs := [.cell 4 30, .tmp 5, .cell 6 25]) rfl (by simp) (.cell gb320 30 #[.int .i64 t344, .int .i64 t345, .string t346, .int .i64 t347, .int .u64 t348] (0, 0) _ rfl (by (with_reducible repeat first | apply blk_drewN | apply blk_drew | apply blk_alloc); refine blk_far ?_ NB320_321.out _; (with_reducible repeat first | apply blk_drewN | apply blk_drew | apply blk_alloc); refine blk_far ?_ NB320_321.out _; (with_reducible repeat first | apply blk_drewN | apply blk_drew | apply blk_alloc); refine blk_put (cs := #[.int .i64 t344, .int .i64 t345, .string t346, .int .i64 t347, .int .u64 x321004_1]) ?_ 4 _ rfl; (with_reducible repeat first | apply blk_drewN | apply blk_drew | apply blk_alloc); refine blk_put (cs := #[.int .i64 t344, .int .i64 t345, .string t346, .int .i64 x321003_1, .int .u64 x321004_1]) ?_ 3 _ rfl; (with_reducible repeat first | apply blk_drewN | apply blk_drew | apply blk_alloc); refine blk_put (cs := #[.int .i64 t344, .int .i64 t345, .string x321002_1, .int .i64 x321003_1, .int .u64 x321004_1]) ?_ 2 _ rfl; (with_reducible repeat first | apply blk_drewN | apply blk_drew | apply blk_alloc); refine blk_put (cs := #[.int .i64 t344, .int .i64 x321001_1, .string x321002_1, .int .i64 x321003_1, .int .u64 x321004_1]) ?_ 1 _ rfl; (with_reducible repeat first | apply blk_drewN | apply blk_drew | apply blk_alloc); refine blk_put (cs := #[.int .i64 x321000_1, .int .i64 x321001_1, .string x321002_1, .int .i64 x321003_1, .int .u64 x321004_1]) ?_ 0 _ rfl; (with_reducible repeat first | apply blk_drewN | apply blk_drew | apply blk_alloc); exact BK320.out) Tryd.underlying30 rfl (by kernel_rfl) (.tmp (.cell gb321 25 #[.int .i64 t350, .int .i64 t351] (0, 0) _ rfl (by (with_reducible repeat first | apply blk_drewN | apply blk_drew | apply blk_alloc); refine blk_put (cs := #[.int .i64 t350, .int .i64 x322001_1]) ?_ 1 _ rfl; (with_reducible repeat first | apply blk_drewN | apply blk_drew | apply blk_alloc); refine blk_put (cs := #[.int .i64 x322000_1, .int .i64 x322001_1]) ?_ 0 _ rfl; (with_reducible repeat first | apply blk_drewN | apply blk_drew | apply blk_alloc); refine blk_far ?_ NB321_320.out _; (with_reducible repeat first | apply blk_drewN | apply blk_drew | apply blk_alloc); refine blk_far ?_ NB321_320.out _; (with_reducible repeat first | apply blk_drewN | apply blk_drew | apply blk_alloc); refine blk_far ?_ NB321_320.out _; (with_reducible repeat first | apply blk_drewN | apply blk_drew | apply blk_alloc); refine blk_far ?_ NB321_320.out _; (with_reducible repeat first | apply blk_drewN | apply blk_drew | apply blk_alloc); refine blk_far ?_ NB321_320.out _; (with_reducible repeat first | apply blk_drewN | apply blk_drew | apply blk_alloc); exact BK321.out) Tryd.underlying25 rfl (by kernel_rfl) .nil)))) rfl ?_
           exact ⟨x61_7, x61_0⟩
          ·rw [if_neg c24] at H
           have c24b0 := beq_eq_false_iff_ne.mpr c24
           have c24b1 := bne_iff_ne.mpr c24
           have HC30 := Aside0.mk H
           clear H
           go_upto_region 13 with (fail)
           go_cut [58] (fun v58 wc => ∃ (kq : Nat) (x58_29 : Bool), v58 = .bool x58_29 ∧ Aside0 (casketref11_text.j2 kq a0 a1 x7_1 (wrap64 (x8_1 + 1)) x58_29 = some (r1, r2, r3, r4, r5, r6, r7, r8)) ∧ Aside0 (kq ≤ kj14) ∧ Aside0 (Kd.R (Kd.int .u8) 5 wc w.heap.size (fun _ => True) u7 x7_1) ∧ Aside0 (wc.heap[gb320]? = some (.cells #[.int .i64 x321000_1, .int .i64 x321001_1, .string x321002_1, .int .i64 x321003_1, .int .u64 x321004_1] 30 (0, 0))) ∧ Aside0 (wc.heap[gb321]? = some (.cells #[.int .i64 x322000_1, .int .i64 x322001_1] 25 (0, 0))) ∧ Aside0 (Below w.heap.size w wc))
           case first =>
            have H := HC30.out
            clear HC30
            obtain ⟨ji31, hji31⟩ : ∃ j_ : Int, (wrap64 (x8_1 + 1)) = j_ := ⟨_, rfl⟩
            replace H : (if 0 ≤ (ji31) then (if (ji31) < (a0.size : Int) then (if (bt a0 (ji31)) = 92 then (casketref11_text.j2 kj14 a0 a1 x7_1 ji31 true) else (casketref11_text.j2 kj14 a0 a1 x7_1 ji31 ((bt a0 (ji31)) == 34))) else (none)) else (none)) = some (r1, r2, r3, r4, r5, r6, r7, r8) := by first | (rw [hji31] at H; exact H) | (simp only [hji31] at H ⊢; exact H)
            (try rw [hji31] at c24b0)
            (try rw [hji31] at c24b1)
            have hji31w : (IntKind.i64.wrap (x8_1 + 1)) = ji31 := (i64_w _).trans hji31
            by_cases c32 : 0 ≤ (ji31)
            ·rw [if_pos c32] at H
             have c32b0 := decide_eq_true c32
             clear c32
             (first | rw [c32b0] | (simp only [i64_w, i32_w]; rw [c32b0]) | skip)
             by_cases c33 : (ji31) < (a0.size : Int)
             ·rw [if_pos c33] at H
              have c33b0 := decide_eq_true c33
              clear c33
              by_cases c35 : (bt a0 (ji31)) = 92
              ·rw [if_pos c35] at H
               have c35b0 := beq_iff_eq.mpr c35
               have c35b1 := bne_eq_false_iff_eq.mpr c35
               clear c35
               have H' := Aside0.mk H
               clear H
               have p34 : 0 ≤ ((ji31) : Int) := of_decide_eq_true x61_12
               have q34 : (ji31) < (a0.size : Int) := of_decide_eq_true x61_12
               have hx34 := bt_at a0 (ji31)
               replace p34 := eq_true p34
               replace q34 := eq_true q34
               go_wp2
               first
               | (go_meet; case rel => exact ⟨_, (true), x61_13, H', ⟨x61_10⟩, ⟨x61_4⟩, ⟨x61_5⟩, ⟨x61_6⟩, ⟨x61_0⟩⟩)
               | (go_meet; case rel => simp only [hji31]; exact ⟨_, (true), x61_13, H', ⟨x61_10⟩, ⟨x61_4⟩, ⟨x61_5⟩, ⟨x61_6⟩, ⟨x61_0⟩⟩)
               | ((try subst hji31); (try subst hji38); (try subst hji44); (try subst hji55); (try subst hji61); (try subst hji66); (try subst hji71); go_meet; case rel => exact ⟨_, (true), x61_13, H', ⟨x61_10⟩, ⟨x61_4⟩, ⟨x61_5⟩, ⟨x61_6⟩, ⟨x61_0⟩⟩)
              ·rw [if_neg c35] at H
               have c35b0 := beq_eq_false_iff_ne.mpr c35
               have c35b1 := bne_iff_ne.mpr c35
               have H' := Aside0.mk H
               clear H
               have p34 : 0 ≤ ((ji31) : Int) := of_decide_eq_true x61_12
               have q34 : (ji31) < (a0.size : Int) := of_decide_eq_true x61_12
               have hx34 := bt_at a0 (ji31)
               replace p34 := eq_true p34
               replace q34 := eq_true q34
               have p36 : 0 ≤ ((ji31) : Int) := of_decide_eq_true x61_12
               have q36 : (ji31) < (a0.size : Int) := of_decide_eq_true x61_12
               have hx36 := bt_at a0 (ji31)
               replace p36 := eq_true p36
               replace q36 := eq_true q36
               go_wp2
               first
               | (go_meet; case rel => exact ⟨_, (((bt a0 (ji31)) == 34)), x61_8, H', ⟨x61_10⟩, ⟨x61_4⟩, ⟨x61_5⟩, ⟨x61_6⟩, ⟨x61_0⟩⟩)
               | (go_meet; case rel => simp only [hji31]; exact ⟨_, (((bt a0 (ji31)) == 34)), x61_8, H', ⟨x61_10⟩, ⟨x61_4⟩, ⟨x61_5⟩, ⟨x61_6⟩, ⟨x61_0⟩⟩)
               | ((try subst hji31); (try subst hji38); (try subst hji44); (try subst hji55); (try subst hji61); (try subst hji66); (try subst hji71); go_meet; case rel => exact ⟨_, (((bt a0 ((wrap64 (x8_1 + 1)))) == 34)), x61_8, H', ⟨x61_10⟩, ⟨x61_4⟩, ⟨x61_5⟩, ⟨x61_6⟩, ⟨x61_0⟩⟩)
             ·rw [if_neg c33] at H
              exact absurd H (by simp)
            ·rw [if_neg c32] at H
             exact absurd H (by simp)
           case rest =>
            clear HC30
            obtain ⟨kq, x58_29, rfl, HA, HJ29, HO_7, BK320, BK321, HB⟩ := hcut
            cases kq with
            | zero => exact absurd HA.out (by simp [casketref11_text.j2])
            | succ kj29 =>
             have H := HA.out
             clear HA
             simp only [casketref11_text.j2] at H
             by_cases c37 : x58_29 = true
             ·subst c37
              rw [if_pos rfl] at H
              obtain ⟨ji38, hji38⟩ : ∃ j_ : Int, (wrap64 (x8_1 + 1)) = j_ := ⟨_, rfl⟩
              replace H : (if 0 ≤ (ji38) then (if (ji38) < (a0.size : Int) then (if x7_1.length < 140737488355328 then (casketref11_text.l0 kj29 a0 a1 (x7_1 ++ [bt a0 (ji38)]) (wrap64 ((ji38) + 1))) else (none)) else (none)) else (none)) = some (r1, r2, r3, r4, r5, r6, r7, r8) := by first | (rw [hji38] at H; exact H) | (simp only [hji38] at H ⊢; exact H)
              (try rw [hji38] at c24b0)
              (try rw [hji38] at c24b1)
              have hji38w : (IntKind.i64.wrap (x8_1 + 1)) = ji38 := (i64_w _).trans hji38
              by_cases c39 : 0 ≤ (ji38)
              ·rw [if_pos c39] at H
               have c39b0 := decide_eq_true c39
               clear c39
               by_cases c40 : (ji38) < (a0.size : Int)
               ·rw [if_pos c40] at H
                have c40b0 := decide_eq_true c40
                clear c40
                by_cases c42 : x7_1.length < 140737488355328
                ·rw [if_pos c42] at H
                 have LMc42 := Aside0.mk c42
                 clear c42
                 obtain ⟨y352, hy352⟩ : ∃ y_ : List Int, y_ = (x7_1 ++ [bt a0 (ji38)]) := ⟨_, rfl⟩
                 replace H : (casketref11_text.l0 kj29 a0 a1 y352 (wrap64 ((ji38) + 1))) = some (r1, r2, r3, r4, r5, r6, r7, r8) := by first | (rw [hy352]; with_reducible exact H) | (have H2_ := (Option.bind_some _ _).symm.trans H; rw [hy352]; with_reducible exact H2_) | (have H2_ := (Option.bind_some _ _).symm.trans H; with_reducible exact H2_) | with_reducible exact H | (rw [hy352]; exact H) | exact H
                 have Ny352 := Aside0.mk hy352
                 clear hy352
                 have H' := Aside0.mk H
                 clear H
                 have p41 : 0 ≤ ((ji38) : Int) := of_decide_eq_true x61_12
                 have q41 : (ji38) < (a0.size : Int) := of_decide_eq_true x61_12
                 have hx41 := bt_at a0 (ji38)
                 replace p41 := eq_true p41
                 replace q41 := eq_true q41
                 go_wp2_with (first | ((with_reducible refine gate_builtin (b := .append) (xs := #[.tmp 59, .tmp 63]) rfl ?_); (try (refine gate_guard (by rfl) ?_; dsimp only)); at_builtin; refine Kd.R_append (Kd.int .u8) (w0 := w) w.heap.size rfl (.tmp 59) (.tmp 63) 36 5 (.int .u8 0) 1 rfl Tryd.underlying36 info5 rfl (by decide) (by omega) u7 x7_1 (bt a0 (ji38)) [.int .u8 (bt a0 (ji38))] (fun _ => True) (fun _ => False) rfl rfl ?aP (fun _ hk => hk.elim) ?aF ?aO ?aB ?aS ?aL ?_; (case aP => exact rfl); (case aB => exact x61_0); (case aF => exact (fun _ _ => trivial)); (case aO => exact x61_4); (case aS => exact (below_size x61_0)); (case aL => have := LMc42.out; omega); intro v353 w43 ho hb hg hat; rw [← Ny352.out] at ho; have n0_ := Aside0.mk (blk_grown (g := gb320) (o := .cells #[.int .i64 x321000_1, .int .i64 x321001_1, .string x321002_1, .int .i64 x321003_1, .int .u64 x321004_1] 30 (0, 0)) x61_5 hg (Kd.R_ne HO_7.out BK320.out (by decide))); have n1_ := Aside0.mk (blk_grown (g := gb321) (o := .cells #[.int .i64 x322000_1, .int .i64 x322001_1] 25 (0, 0)) x61_6 hg (Kd.R_ne HO_7.out BK321.out (by decide))); have n2_ := Aside0.mk (hb); have n3_ := Aside0.mk (ho); clear BK320; clear BK321; clear HB; clear HO_7; have BK320 := n0_; have BK321 := n1_; have HB := n2_; have HO354 := n3_; clear n0_ n1_ n2_ n3_; clear ho hb hg hat))
                 go_roundg kj29
                 case measure => have := HK1.out; have := HJ14.out; have := HJ29.out; omega
                 case rel => exact ⟨(y352), (wrap64 ((ji38) + 1)), (x321000_1), (x321001_1), (x321002_1), (x321003_1), (x321004_1), (x322000_1), (x322001_1), (by first | rfl | (simp; done) | (simp only [← hji38] <;> (first | rfl | simp)) | (simp [*]; done)), H', ⟨by have := HK1.out; have := HJ14.out; have := HJ29.out; omega⟩, ⟨by (with_reducible repeat (first | apply Kd.R_alloc | apply Kd.R_drewN | apply Kd.R_drew)); exact HO354.out⟩, ⟨x61_5⟩, ⟨x61_6⟩, ⟨x61_0⟩⟩
                ·rw [if_neg c42] at H
                 exact absurd H (by simp)
               ·rw [if_neg c40] at H
                exact absurd H (by simp)
              ·rw [if_neg c39] at H
               exact absurd H (by simp)
             ·replace c37 := Bool.eq_false_iff.mpr c37
              subst c37
              rw [if_neg (show ¬ (false = true) by decide)] at H
              obtain ⟨ji44, hji44⟩ : ∃ j_ : Int, (wrap64 (x8_1 + 1)) = j_ := ⟨_, rfl⟩
              replace H : (if 0 ≤ (ji44) then (if (ji44) < (a0.size : Int) then (if (bt a0 (ji44)) = 110 then (if x7_1.length < 140737488355328 then (casketref11_text.l0 kj29 a0 a1 (x7_1 ++ [10]) (wrap64 ((ji44) + 1))) else (none)) else (if (bt a0 (ji44)) = 120 then (if (wrap64 ((ji44) + 2)) < (a0.size : Int) then (if 0 ≤ (wrap64 ((ji44) + 1)) then (if (wrap64 ((ji44) + 1)) < (a0.size : Int) then ((casketref11_hex.f (bt a0 (wrap64 ((ji44) + 1)))).bind fun t358 => (if t358 ≥ 0 then (if 0 ≤ (wrap64 ((ji44) + 2)) then ((casketref11_hex.f (bt a0 (wrap64 ((ji44) + 2)))).bind fun t359 => (casketref11_text.j3 kj29 a0 a1 x7_1 (ji44) (decide (t359 ≥ 0)))) else (none)) else (casketref11_text.j3 kj29 a0 a1 x7_1 (ji44) false))) else (none)) else (none)) else (casketref11_text.j3 kj29 a0 a1 x7_1 (ji44) false)) else (casketref11_text.j3 kj29 a0 a1 x7_1 (ji44) false))) else (none)) else (none)) = some (r1, r2, r3, r4, r5, r6, r7, r8) := by first | (rw [hji44] at H; exact H) | (simp only [hji44] at H ⊢; exact H)
              (try rw [hji44] at c24b0)
              (try rw [hji44] at c24b1)
              have hji44w : (IntKind.i64.wrap (x8_1 + 1)) = ji44 := (i64_w _).trans hji44
              by_cases c45 : 0 ≤ (ji44)
              ·rw [if_pos c45] at H
               have c45b0 := decide_eq_true c45
               clear c45
               by_cases c46 : (ji44) < (a0.size : Int)
               ·rw [if_pos c46] at H
                have c46b0 := decide_eq_true c46
                clear c46
                by_cases c48 : (bt a0 (ji44)) = 110
                ·rw [if_pos c48] at H
                 have c48b0 := beq_iff_eq.mpr c48
                 have c48b1 := bne_eq_false_iff_eq.mpr c48
                 clear c48
                 by_cases c49 : x7_1.length < 140737488355328
                 ·rw [if_pos c49] at H
                  have LMc49 := Aside0.mk c49
                  clear c49
                  obtain ⟨y355, hy355⟩ : ∃ y_ : List Int, y_ = (x7_1 ++ [10]) := ⟨_, rfl⟩
                  replace H : (casketref11_text.l0 kj29 a0 a1 y355 (wrap64 ((ji44) + 1))) = some (r1, r2, r3, r4, r5, r6, r7, r8) := by first | (rw [hy355]; with_reducible exact H) | (have H2_ := (Option.bind_some _ _).symm.trans H; rw [hy355]; with_reducible exact H2_) | (have H2_ := (Option.bind_some _ _).symm.trans H; with_reducible exact H2_) | with_reducible exact H | (rw [hy355]; exact H) | exact H
                  have Ny355 := Aside0.mk hy355
                  clear hy355
                  have H' := Aside0.mk H
                  clear H
                  have p47 : 0 ≤ ((ji44) : Int) := of_decide_eq_true x61_12
                  have q47 : (ji44) < (a0.size : Int) := of_decide_eq_true x61_12
                  have hx47 := bt_at a0 (ji44)
                  replace p47 := eq_true p47
                  replace q47 := eq_true q47
                  go_wp2_with (first | ((with_reducible refine gate_builtin (b := .append) (xs := #[.tmp 69, .tmp 70]) rfl ?_); (try (refine gate_guard (by rfl) ?_; dsimp only)); at_builtin; refine Kd.R_append (Kd.int .u8) (w0 := w) w.heap.size rfl (.tmp 69) (.tmp 70) 36 5 (.int .u8 0) 1 rfl Tryd.underlying36 info5 rfl (by decide) (by omega) u7 x7_1 10 [.int .u8 10] (fun _ => True) (fun _ => False) rfl rfl ?aP (fun _ hk => hk.elim) ?aF ?aO ?aB ?aS ?aL ?_; (case aP => exact rfl); (case aB => exact x61_0); (case aF => exact (fun _ _ => trivial)); (case aO => exact x61_4); (case aS => exact (below_size x61_0)); (case aL => have := LMc49.out; omega); intro v356 w50 ho hb hg hat; rw [← Ny355.out] at ho; have n0_ := Aside0.mk (blk_grown (g := gb320) (o := .cells #[.int .i64 x321000_1, .int .i64 x321001_1, .string x321002_1, .int .i64 x321003_1, .int .u64 x321004_1] 30 (0, 0)) x61_5 hg (Kd.R_ne HO_7.out BK320.out (by decide))); have n1_ := Aside0.mk (blk_grown (g := gb321) (o := .cells #[.int .i64 x322000_1, .int .i64 x322001_1] 25 (0, 0)) x61_6 hg (Kd.R_ne HO_7.out BK321.out (by decide))); have n2_ := Aside0.mk (hb); have n3_ := Aside0.mk (ho); clear BK320; clear BK321; clear HB; clear HO_7; have BK320 := n0_; have BK321 := n1_; have HB := n2_; have HO357 := n3_; clear n0_ n1_ n2_ n3_; clear ho hb hg hat))
                  go_roundg kj29
                  case measure => have := HK1.out; have := HJ14.out; have := HJ29.out; omega
                  case rel => exact ⟨(y355), (wrap64 ((ji44) + 1)), (x321000_1), (x321001_1), (x321002_1), (x321003_1), (x321004_1), (x322000_1), (x322001_1), (by first | rfl | (simp; done) | (simp only [← hji44] <;> (first | rfl | simp)) | (simp [*]; done)), H', ⟨by have := HK1.out; have := HJ14.out; have := HJ29.out; omega⟩, ⟨by (with_reducible repeat (first | apply Kd.R_alloc | apply Kd.R_drewN | apply Kd.R_drew)); exact HO357.out⟩, ⟨x61_5⟩, ⟨x61_6⟩, ⟨x61_0⟩⟩
                 ·rw [if_neg c49] at H
                  exact absurd H (by simp)
                ·rw [if_neg c48] at H
                 have c48b0 := beq_eq_false_iff_ne.mpr c48
                 have c48b1 := bne_iff_ne.mpr c48
                 have HC51 := Aside0.mk H
                 clear H
                 have p47 : 0 ≤ ((ji44) : Int) := of_decide_eq_true x61_12
                 have q47 : (ji44) < (a0.size : Int) := of_decide_eq_true x61_12
                 have hx47 := bt_at a0 (ji44)
                 replace p47 := eq_true p47
                 replace q47 := eq_true q47
                 go_upto_region 17 with (fail)
                 go_cut [98] (fun v98 wc => ∃ (kq : Nat) (x98_50 : Bool), v98 = .bool x98_50 ∧ Aside0 (casketref11_text.j3 kq a0 a1 x7_1 (ji44) x98_50 = some (r1, r2, r3, r4, r5, r6, r7, r8)) ∧ Aside0 (kq ≤ kj29) ∧ Aside0 (Kd.R (Kd.int .u8) 5 wc w.heap.size (fun _ => True) u7 x7_1) ∧ Aside0 (wc.heap[gb320]? = some (.cells #[.int .i64 x321000_1, .int .i64 x321001_1, .string x321002_1, .int .i64 x321003_1, .int .u64 x321004_1] 30 (0, 0))) ∧ Aside0 (wc.heap[gb321]? = some (.cells #[.int .i64 x322000_1, .int .i64 x322001_1] 25 (0, 0))) ∧ Aside0 (Below w.heap.size w wc))
                 case first =>
                  have H := HC51.out
                  clear HC51
                  by_cases c53 : (bt a0 (ji44)) = 120
                  ·rw [if_pos c53] at H
                   have c53b0 := beq_iff_eq.mpr c53
                   have c53b1 := bne_eq_false_iff_eq.mpr c53
                   clear c53
                   (first | rw [c53b0] | (simp only [i64_w, i32_w]; rw [c53b0]) | skip)
                   by_cases c54 : (wrap64 ((ji44) + 2)) < (a0.size : Int)
                   ·rw [if_pos c54] at H
                    have c54b0 := decide_eq_true c54
                    clear c54
                    obtain ⟨ji55, hji55⟩ : ∃ j_ : Int, (wrap64 ((ji44) + 1)) = j_ := ⟨_, rfl⟩
                    replace H : (if 0 ≤ (ji55) then (if (ji55) < (a0.size : Int) then ((casketref11_hex.f (bt a0 (ji55))).bind fun t358 => (if t358 ≥ 0 then (if 0 ≤ (wrap64 ((ji44) + 2)) then ((casketref11_hex.f (bt a0 (wrap64 ((ji44) + 2)))).bind fun t359 => (casketref11_text.j3 kj29 a0 a1 x7_1 (ji44) (decide (t359 ≥ 0)))) else (none)) else (casketref11_text.j3 kj29 a0 a1 x7_1 (ji44) false))) else (none)) else (none)) = some (r1, r2, r3, r4, r5, r6, r7, r8) := by first | (rw [hji55] at H; exact H) | (simp only [hji55] at H ⊢; exact H)
                    have hji55w : (IntKind.i64.wrap ((ji44) + 1)) = ji55 := (i64_w _).trans hji55
                    by_cases c56 : 0 ≤ (ji55)
                    ·rw [if_pos c56] at H
                     have c56b0 := decide_eq_true c56
                     clear c56
                     by_cases c57 : (ji55) < (a0.size : Int)
                     ·rw [if_pos c57] at H
                      have c57b0 := decide_eq_true c57
                      clear c57
                      obtain ⟨t358, A590, H⟩ := Option.bind_eq_some_iff.mp H
                      have A59 := Aside0.mk A590
                      clear A590
                      by_cases c60 : t358 ≥ 0
                      ·rw [if_pos c60] at H
                       have c60b0 : decide (0 ≤ t358) = true := decide_eq_true c60
                       clear c60
                       obtain ⟨ji61, hji61⟩ : ∃ j_ : Int, (wrap64 ((ji44) + 2)) = j_ := ⟨_, rfl⟩
                       replace H : (if 0 ≤ (ji61) then ((casketref11_hex.f (bt a0 (ji61))).bind fun t359 => (casketref11_text.j3 kj29 a0 a1 x7_1 (ji44) (decide (t359 ≥ 0)))) else (none)) = some (r1, r2, r3, r4, r5, r6, r7, r8) := by first | (rw [hji61] at H; exact H) | (simp only [hji61] at H ⊢; exact H)
                       (try rw [hji61] at c54b0)
                       (try rw [hji61] at A59)
                       have hji61w : (IntKind.i64.wrap ((ji44) + 2)) = ji61 := (i64_w _).trans hji61
                       by_cases c62 : 0 ≤ (ji61)
                       ·rw [if_pos c62] at H
                        have c62b0 := decide_eq_true c62
                        clear c62
                        obtain ⟨t359, A640, H⟩ := Option.bind_eq_some_iff.mp H
                        have A64 := Aside0.mk A640
                        clear A640
                        have H' := Aside0.mk H
                        clear H
                        have p52 : 0 ≤ ((ji44) : Int) := of_decide_eq_true x61_12
                        have q52 : (ji44) < (a0.size : Int) := of_decide_eq_true x61_12
                        have hx52 := bt_at a0 (ji44)
                        replace p52 := eq_true p52
                        replace q52 := eq_true q52
                        have p58 : 0 ≤ ((ji55) : Int) := of_decide_eq_true x61_12
                        have q58 : (ji55) < (a0.size : Int) := of_decide_eq_true x61_12
                        have hx58 := bt_at a0 (ji55)
                        replace p58 := eq_true p58
                        replace q58 := eq_true q58
                        go_wp2_with (first | (go_at_call 53; (with_reducible refine (casketref11_hex.calls (bt a0 (ji55)) t358 _ A59.out).mono ?_); rintro e w' ⟨rfl, ⟨nd, rfl⟩⟩; have p63 : 0 ≤ ((ji61) : Int) := of_decide_eq_true x61_12; have q63 : (ji61) < (a0.size : Int) := of_decide_eq_true x61_12; have hx63 := bt_at a0 (ji61); replace p63 := eq_true p63; replace q63 := eq_true q63) | (go_at_call 53; (with_reducible refine (casketref11_hex.calls (bt a0 (ji61)) t359 _ A64.out).mono ?_); rintro e w' ⟨rfl, ⟨nd, rfl⟩⟩))
                        first
                        | (go_meet; case rel => exact ⟨_, (decide (t359 ≥ 0)), x61_13, H', ⟨x61_9⟩, ⟨x61_4⟩, ⟨x61_5⟩, ⟨x61_6⟩, ⟨x61_0⟩⟩)
                        | (go_meet; case rel => simp only [hji31, hji38, hji44, hji55, hji61]; exact ⟨_, (decide (t359 ≥ 0)), x61_13, H', ⟨x61_9⟩, ⟨x61_4⟩, ⟨x61_5⟩, ⟨x61_6⟩, ⟨x61_0⟩⟩)
                        | ((try subst hji31); (try subst hji38); (try subst hji44); (try subst hji55); (try subst hji61); (try subst hji66); (try subst hji71); go_meet; case rel => exact ⟨_, (decide (t359 ≥ 0)), x61_13, H', ⟨x61_9⟩, ⟨x61_4⟩, ⟨x61_5⟩, ⟨x61_6⟩, ⟨x61_0⟩⟩)
                       ·rw [if_neg c62] at H
                        exact absurd H (by simp)
                      ·rw [if_neg c60] at H
                       have c60b0 : decide (0 ≤ t358) = false := decide_eq_false c60
                       clear c60
                       have H' := Aside0.mk H
                       clear H
                       have p52 : 0 ≤ ((ji44) : Int) := of_decide_eq_true x61_12
                       have q52 : (ji44) < (a0.size : Int) := of_decide_eq_true x61_12
                       have hx52 := bt_at a0 (ji44)
                       replace p52 := eq_true p52
                       replace q52 := eq_true q52
                       have p58 : 0 ≤ ((ji55) : Int) := of_decide_eq_true x61_12
                       have q58 : (ji55) < (a0.size : Int) := of_decide_eq_true x61_12
                       have hx58 := bt_at a0 (ji55)
                       replace p58 := eq_true p58
                       replace q58 := eq_true q58
                       go_wp2_with (first | (go_at_call 53; (with_reducible refine (casketref11_hex.calls (bt a0 (ji55)) t358 _ A59.out).mono ?_); rintro e w' ⟨rfl, ⟨nd, rfl⟩⟩))
                       first
                       | (go_meet; case rel => exact ⟨_, (false), x61_13, H', ⟨x61_9⟩, ⟨x61_4⟩, ⟨x61_5⟩, ⟨x61_6⟩, ⟨x61_0⟩⟩)
                       | (go_meet; case rel => simp only [hji31, hji38, hji44, hji55, hji61]; exact ⟨_, (false), x61_13, H', ⟨x61_9⟩, ⟨x61_4⟩, ⟨x61_5⟩, ⟨x61_6⟩, ⟨x61_0⟩⟩)
                       | ((try subst hji31); (try subst hji38); (try subst hji44); (try subst hji55); (try subst hji61); (try subst hji66); (try subst hji71); go_meet; case rel => exact ⟨_, (false), x61_13, H', ⟨x61_9⟩, ⟨x61_4⟩, ⟨x61_5⟩, ⟨x61_6⟩, ⟨x61_0⟩⟩)
                     ·rw [if_neg c57] at H
                      exact absurd H (by simp)
                    ·rw [if_neg c56] at H
                     exact absurd H (by simp)
                   ·rw [if_neg c54] at H
                    have c54b0 := decide_eq_false c54
                    clear c54
                    have H' := Aside0.mk H
                    clear H
                    have p52 : 0 ≤ ((ji44) : Int) := of_decide_eq_true x61_12
                    have q52 : (ji44) < (a0.size : Int) := of_decide_eq_true x61_12
                    have hx52 := bt_at a0 (ji44)
                    replace p52 := eq_true p52
                    replace q52 := eq_true q52
                    go_wp2
                    first
                    | (go_meet; case rel => exact ⟨_, (false), x61_13, H', ⟨x61_9⟩, ⟨x61_4⟩, ⟨x61_5⟩, ⟨x61_6⟩, ⟨x61_0⟩⟩)
                    | (go_meet; case rel => simp only [hji31, hji38, hji44, hji55, hji61]; exact ⟨_, (false), x61_13, H', ⟨x61_9⟩, ⟨x61_4⟩, ⟨x61_5⟩, ⟨x61_6⟩, ⟨x61_0⟩⟩)
                    | ((try subst hji31); (try subst hji38); (try subst hji44); (try subst hji55); (try subst hji61); (try subst hji66); (try subst hji71); go_meet; case rel => exact ⟨_, (false), x61_13, H', ⟨x61_9⟩, ⟨x61_4⟩, ⟨x61_5⟩, ⟨x61_6⟩, ⟨x61_0⟩⟩)
                  ·rw [if_neg c53] at H
                   have c53b0 := beq_eq_false_iff_ne.mpr c53
                   have c53b1 := bne_iff_ne.mpr c53
                   (first | rw [c53b0] | (simp only [i64_w, i32_w]; rw [c53b0]) | skip)
                   have H' := Aside0.mk H
                   clear H
                   have p52 : 0 ≤ ((ji44) : Int) := of_decide_eq_true x61_12
                   have q52 : (ji44) < (a0.size : Int) := of_decide_eq_true x61_12
                   have hx52 := bt_at a0 (ji44)
                   replace p52 := eq_true p52
                   replace q52 := eq_true q52
                   go_wp2
                   first
                   | (go_meet; case rel => exact ⟨_, (false), x61_13, H', ⟨x61_9⟩, ⟨x61_4⟩, ⟨x61_5⟩, ⟨x61_6⟩, ⟨x61_0⟩⟩)
                   | (go_meet; case rel => simp only [hji31, hji38, hji44, hji55, hji61]; exact ⟨_, (false), x61_13, H', ⟨x61_9⟩, ⟨x61_4⟩, ⟨x61_5⟩, ⟨x61_6⟩, ⟨x61_0⟩⟩)
                   | ((try subst hji31); (try subst hji38); (try subst hji44); (try subst hji55); (try subst hji61); (try subst hji66); (try subst hji71); go_meet; case rel => exact ⟨_, (false), x61_13, H', ⟨x61_9⟩, ⟨x61_4⟩, ⟨x61_5⟩, ⟨x61_6⟩, ⟨x61_0⟩⟩)
                 case rest =>
                  clear HC51
                  obtain ⟨kq, x98_50, rfl, HA, HJ50, HO_7, BK320, BK321, HB⟩ := hcut
                  cases kq with
                  | zero => exact absurd HA.out (by simp [casketref11_text.j3])
                  | succ kj50 =>
                   have H := HA.out
                   clear HA
                   simp only [casketref11_text.j3] at H
                   by_cases c65 : x98_50 = true
                   ·subst c65
                    rw [if_pos rfl] at H
                    obtain ⟨ji66, hji66⟩ : ∃ j_ : Int, (wrap64 ((ji44) + 1)) = j_ := ⟨_, rfl⟩
                    replace H : (if 0 ≤ (ji66) then (if (ji66) < (a0.size : Int) then ((casketref11_hex.f (bt a0 (ji66))).bind fun t360 => (if 0 ≤ (wrap64 ((ji44) + 2)) then (if (wrap64 ((ji44) + 2)) < (a0.size : Int) then ((casketref11_hex.f (bt a0 (wrap64 ((ji44) + 2)))).bind fun t361 => (if x7_1.length < 140737488355328 then (casketref11_text.l0 kj50 a0 a1 (x7_1 ++ [(wrap64 ((wrap64 (16 * t360)) + t361)) % 256]) (wrap64 ((wrap64 ((ji44) + 2)) + 1))) else (none))) else (none)) else (none))) else (none)) else (none)) = some (r1, r2, r3, r4, r5, r6, r7, r8) := by first | (rw [hji66] at H; exact H) | (simp only [hji66] at H ⊢; exact H)
                    have hji66w : (IntKind.i64.wrap ((ji44) + 1)) = ji66 := (i64_w _).trans hji66
                    by_cases c67 : 0 ≤ (ji66)
                    ·rw [if_pos c67] at H
                     have c67b0 := decide_eq_true c67
                     clear c67
                     by_cases c68 : (ji66) < (a0.size : Int)
                     ·rw [if_pos c68] at H
                      have c68b0 := decide_eq_true c68
                      clear c68
                      obtain ⟨t360, A700, H⟩ := Option.bind_eq_some_iff.mp H
                      have A70 := Aside0.mk A700
                      clear A700
                      obtain ⟨ji71, hji71⟩ : ∃ j_ : Int, (wrap64 ((ji44) + 2)) = j_ := ⟨_, rfl⟩
                      replace H : (if 0 ≤ (ji71) then (if (ji71) < (a0.size : Int) then ((casketref11_hex.f (bt a0 (ji71))).bind fun t361 => (if x7_1.length < 140737488355328 then (casketref11_text.l0 kj50 a0 a1 (x7_1 ++ [(wrap64 ((wrap64 (16 * t360)) + t361)) % 256]) (wrap64 ((ji71) + 1))) else (none))) else (none)) else (none)) = some (r1, r2, r3, r4, r5, r6, r7, r8) := by first | (rw [hji71] at H; exact H) | (simp only [hji71] at H ⊢; exact H)
                      (try rw [hji71] at A70)
                      have hji71w : (IntKind.i64.wrap ((ji44) + 2)) = ji71 := (i64_w _).trans hji71
                      by_cases c72 : 0 ≤ (ji71)
                      ·rw [if_pos c72] at H
                       have c72b0 := decide_eq_true c72
                       clear c72
                       by_cases c73 : (ji71) < (a0.size : Int)
                       ·rw [if_pos c73] at H
                        have c73b0 := decide_eq_true c73
                        clear c73
                        obtain ⟨t361, A750, H⟩ := Option.bind_eq_some_iff.mp H
                        have A75 := Aside0.mk A750
                        clear A750
                        by_cases c76 : x7_1.length < 140737488355328
                        ·rw [if_pos c76] at H
                         have LMc76 := Aside0.mk c76
                         clear c76
                         obtain ⟨y362, hy362⟩ : ∃ y_ : List Int, y_ = (x7_1 ++ [(wrap64 ((wrap64 (16 * t360)) + t361)) % 256]) := ⟨_, rfl⟩
                         replace H : (casketref11_text.l0 kj50 a0 a1 y362 (wrap64 ((ji71) + 1))) = some (r1, r2, r3, r4, r5, r6, r7, r8) := by first | (rw [hy362]; with_reducible exact H) | (have H2_ := (Option.bind_some _ _).symm.trans H; rw [hy362]; with_reducible exact H2_) | (have H2_ := (Option.bind_some _ _).symm.trans H; with_reducible exact H2_) | with_reducible exact H | (rw [hy362]; exact H) | exact H
                         have Ny362 := Aside0.mk hy362
                         clear hy362
                         have H' := Aside0.mk H
                         clear H
                         try go_wp2
                         have n0_ := Aside0.mk (Kd.R_drew HO_7.out)
                         have n1_ := Aside0.mk (blk_drew BK320.out)
                         have n2_ := Aside0.mk (blk_drew BK321.out)
                         have n3_ := Aside0.mk (below_drew1 HB.out)
                         clear HO_7
                         clear BK320
                         clear BK321
                         clear HB
                         have HO_7 := n0_
                         have BK320 := n1_
                         have BK321 := n2_
                         have HB := n3_
                         clear n0_ n1_ n2_ n3_
                         have p69 : 0 ≤ ((ji66) : Int) := of_decide_eq_true x61_12
                         have q69 : (ji66) < (a0.size : Int) := of_decide_eq_true x61_12
                         have hx69 := bt_at a0 (ji66)
                         replace p69 := eq_true p69
                         replace q69 := eq_true q69
                         have p74 : 0 ≤ ((ji71) : Int) := of_decide_eq_true x61_12
                         have q74 : (ji71) < (a0.size : Int) := of_decide_eq_true x61_12
                         have hx74 := bt_at a0 (ji71)
                         replace p74 := eq_true p74
                         replace q74 := eq_true q74
                         refine start_ (n := 17) (S := fun w' => True) (ds := []) #[false, false, false, false, false, false, false, false, false, false, false, false, false, false, false, false, false] (by kernel_rfl) rfl rfl trivial (fun hHeld => ?_); refine with_tabW casketref11_text.tab18 casketref11_text.bits18 (fun HT_ HW_ => ?_)
                         generalize wc.drew = w77 at HO_7 BK320 BK321 HB hHeld ⊢
                         refine pure_ (i := 0) (N := some 99) (v := ?_) (a' := ?_) #[true, false, false, false, false, false, false, false, false, false, false, false, false, false, false, false, false] rfl rfl (any_of HT_.out (by kernel_rfl)) (fun _ _ _ h => h) (Or.inl ⟨by rfl, ?_⟩) ?_ ?_
                         rotate_left
                         ·intro w'
                          go_simp
                          with_reducible rfl
                         rotate_left
                         ·simp only [Act.put, List.setIfInBounds_toArray, List.set_cons_zero, List.set_cons_succ, i64_w, i32_w]
                          rfl
                         refine pure_ (i := 1) (N := some 100) (v := ?_) (a' := ?_) #[true, true, false, false, false, false, false, false, false, false, false, false, false, false, false, false, false] rfl rfl (any_of HT_.out (by kernel_rfl)) (fun _ _ _ h => h) (Or.inl ⟨by rfl, ?_⟩) ?_ ?_
                         rotate_left
                         ·intro w'
                          go_simp
                          with_reducible rfl
                         rotate_left
                         ·simp only [Act.put, List.setIfInBounds_toArray, List.set_cons_zero, List.set_cons_succ, i64_w, i32_w]
                          rfl
                         refine pure_ (i := 2) (N := some 101) (v := ?_) (a' := ?_) #[true, true, true, false, false, false, false, false, false, false, false, false, false, false, false, false, false] rfl rfl (any_of HT_.out (by kernel_rfl)) (fun _ _ _ h => h) (Or.inl ⟨by rfl, ?_⟩) ?_ ?_
                         rotate_left
                         ·intro w'
                          go_simp
                          with_reducible rfl
                         rotate_left
                         ·simp only [Act.put, List.setIfInBounds_toArray, List.set_cons_zero, List.set_cons_succ, i64_w, i32_w]
                          rfl
                         refine pure_ (i := 3) (N := some 102) (v := ?_) (a' := ?_) #[true, true, true, true, false, false, false, false, false, false, false, false, false, false, false, false, false] rfl rfl (any_of HT_.out (by kernel_rfl)) (fun _ _ _ h => h) (Or.inl ⟨by rfl, ?_⟩) ?_ ?_
                         rotate_left
                         ·intro w'
                          go_simp
                          with_reducible rfl
                         rotate_left
                         ·simp only [Act.put, List.setIfInBounds_toArray, List.set_cons_zero, List.set_cons_succ, i64_w, i32_w]
                          rfl
                         refine pure_ (i := 7) (N := some 106) (v := ?_) (a' := ?_) #[true, true, true, true, false, false, false, true, false, false, false, false, false, false, false, false, false] rfl rfl (any_of HT_.out (by kernel_rfl)) (fun _ _ _ h => h) (Or.inl ⟨by rfl, ?_⟩) ?_ ?_
                         rotate_left
                         ·intro w'
                          go_simp
                          with_reducible rfl
                         rotate_left
                         ·simp only [Act.put, List.setIfInBounds_toArray, List.set_cons_zero, List.set_cons_succ, i64_w, i32_w]
                          rfl
                         refine pure_ (i := 8) (N := some 107) (v := ?_) (a' := ?_) #[true, true, true, true, false, false, false, true, true, false, false, false, false, false, false, false, false] rfl rfl (any_of HT_.out (by kernel_rfl)) (fun _ _ _ h => h) (Or.inl ⟨by rfl, ?_⟩) ?_ ?_
                         rotate_left
                         ·intro w'
                          go_simp
                          with_reducible rfl
                         rotate_left
                         ·simp only [Act.put, List.setIfInBounds_toArray, List.set_cons_zero, List.set_cons_succ, i64_w, i32_w]
                          rfl
                         refine pure_ (i := 9) (N := some 108) (v := ?_) (a' := ?_) #[true, true, true, true, false, false, false, true, true, true, false, false, false, false, false, false, false] rfl rfl (any_of HT_.out (by kernel_rfl)) (fun _ _ _ h => h) (Or.inl ⟨by rfl, ?_⟩) ?_ ?_
                         rotate_left
                         ·intro w'
                          go_simp
                          with_reducible rfl
                         rotate_left
                         ·simp only [Act.put, List.setIfInBounds_toArray, List.set_cons_zero, List.set_cons_succ, i64_w, i32_w]
                          rfl
                         refine take_ (i := 4) (N := some 103) (v := ?_) (a' := ?_) #[true, true, true, true, true, false, false, true, true, true, false, false, false, false, false, false, false] rfl rfl (take_ofW HT_.out HW_.out (by kernel_rfl)) (fun _ _ _ h => h) (Or.inl ⟨by rfl, ?_⟩) hHeld ?_ ?_
                         rotate_left
                         ·intro w' _
                          go_simp
                          with_reducible rfl
                         rotate_left
                         ·simp only [Act.put, List.setIfInBounds_toArray, List.set_cons_zero, List.set_cons_succ, i64_w, i32_w]
                          rfl
                         refine take_ (i := 10) (N := some 109) (v := ?_) (a' := ?_) #[true, true, true, true, true, false, false, true, true, true, true, false, false, false, false, false, false] rfl rfl (take_ofW HT_.out HW_.out (by kernel_rfl)) (fun _ _ _ h => h) (Or.inl ⟨by rfl, ?_⟩) hHeld ?_ ?_
                         rotate_left
                         ·intro w' _
                          go_simp
                          with_reducible rfl
                         rotate_left
                         ·simp only [Act.put, List.setIfInBounds_toArray, List.set_cons_zero, List.set_cons_succ, i64_w, i32_w]
                          rfl
                         refine one_ (i := 5) (N := some 104) #[true, true, true, true, true, true, false, true, true, true, true, false, false, false, false, false, false] rfl rfl (one_of HT_.out (by kernel_rfl)) (by decide) (fun K hK => ?_)
                         refine goes_ Tryd.func53 (by kernel_rfl) rfl #[.int .u8 (bt a0 (ji66))] (by rfl) rfl rfl (by (try simp only [List.map_toArray, List.map_cons, List.map_nil]); first | done | (simp only [hji66]; rfl) | rfl | (simp only [List.length_drop, List.length_take]; rfl)) ?_
                         with_reducible refine (casketref11_hex.calls (bt a0 (ji66)) t360 _ A70.out).mono ?_
                         rintro e w' ⟨rfl, ⟨nd, rfl⟩⟩
                         refine ⟨_, rfl, ?_⟩
                         refine hK.out _ _ trivial (fun hHeld => ?_)
                         clear hK K
                         refine norm_ (a' := ?_) ?_ ?_
                         rotate_left
                         ·show Act.put _ (some 104) _ = _
                          simp only [Act.put, List.setIfInBounds_toArray, List.set_cons_zero, List.set_cons_succ, i64_w, i32_w]
                          rfl
                         refine pure_ (i := 6) (N := some 105) (v := ?_) (a' := ?_) #[true, true, true, true, true, true, true, true, true, true, true, false, false, false, false, false, false] rfl rfl (any_of HT_.out (by kernel_rfl)) (fun _ _ _ h => h) (Or.inl ⟨by rfl, ?_⟩) ?_ ?_
                         rotate_left
                         ·intro w'
                          go_simp
                          with_reducible rfl
                         rotate_left
                         ·simp only [Act.put, List.setIfInBounds_toArray, List.set_cons_zero, List.set_cons_succ, i64_w, i32_w]
                          rfl
                         refine one_ (i := 11) (N := some 110) #[true, true, true, true, true, true, true, true, true, true, true, true, false, false, false, false, false] rfl rfl (one_of HT_.out (by kernel_rfl)) (by decide) (fun K hK => ?_)
                         refine goes_ Tryd.func53 (by kernel_rfl) rfl #[.int .u8 (bt a0 (ji71))] (by rfl) rfl rfl (by (try simp only [List.map_toArray, List.map_cons, List.map_nil]); first | done | (simp only [hji71]; rfl) | rfl | (simp only [List.length_drop, List.length_take]; rfl)) ?_
                         with_reducible refine (casketref11_hex.calls (bt a0 (ji71)) t361 _ A75.out).mono ?_
                         rintro e w' ⟨rfl, ⟨nd, rfl⟩⟩
                         refine ⟨_, rfl, ?_⟩
                         refine hK.out _ _ trivial (fun hHeld => ?_)
                         clear hK K
                         refine norm_ (a' := ?_) ?_ ?_
                         rotate_left
                         ·show Act.put _ (some 110) _ = _
                          simp only [Act.put, List.setIfInBounds_toArray, List.set_cons_zero, List.set_cons_succ, i64_w, i32_w]
                          rfl
                         refine pure_ (i := 12) (N := some 111) (v := ?_) (a' := ?_) #[true, true, true, true, true, true, true, true, true, true, true, true, true, false, false, false, false] rfl rfl (any_of HT_.out (by kernel_rfl)) (fun _ _ _ h => h) (Or.inl ⟨by rfl, ?_⟩) ?_ ?_
                         rotate_left
                         ·intro w'
                          go_simp
                          with_reducible rfl
                         rotate_left
                         ·simp only [Act.put, List.setIfInBounds_toArray, List.set_cons_zero, List.set_cons_succ, i64_w, i32_w]
                          rfl
                         refine pure_ (i := 13) (N := some 112) (v := ?_) (a' := ?_) #[true, true, true, true, true, true, true, true, true, true, true, true, true, true, false, false, false] rfl rfl (any_of HT_.out (by kernel_rfl)) (fun _ _ _ h => h) (Or.inl ⟨by rfl, ?_⟩) ?_ ?_
                         rotate_left
                         ·intro w'
                          go_simp
                          with_reducible rfl
                         rotate_left
                         ·simp only [Act.put, List.setIfInBounds_toArray, List.set_cons_zero, List.set_cons_succ, i64_w, i32_w]
                          rfl
                         refine one_ (i := 14) (N := some 113) #[true, true, true, true, true, true, true, true, true, true, true, true, true, true, true, false, false] rfl rfl (one_of HT_.out (by kernel_rfl)) (by decide) (fun K hK => ?_)
                         refine value_ (w1 := ?_) (v := ?_) (by rfl) rfl ?_ ?_
                         rotate_left 2
                         ·go_simp
                          constructor
                          ·rfl
                          ·rfl
                         refine hK.out _ _ trivial (fun hHeld => ?_)
                         clear hK K
                         refine norm_ (a' := ?_) ?_ ?_
                         rotate_left
                         ·show Act.put _ (some 113) _ = _
                          simp only [Act.put, List.setIfInBounds_toArray, List.set_cons_zero, List.set_cons_succ, i64_w, i32_w]
                          rfl
                         refine one_ (i := 15) (N := some 114) #[true, true, true, true, true, true, true, true, true, true, true, true, true, true, true, true, false] rfl rfl (one_of HT_.out (by kernel_rfl)) (by decide) (fun K hK => ?_)
                         refine Kd.R_append_step (Kd.int .u8) (w0 := w) w.heap.size (by rfl) (.tmp 99) (.tmp 113) 36 5 (.int .u8 0) 1 rfl Tryd.underlying36 info5 rfl (by decide) (by omega) u7 x7_1 ((wrap64 ((wrap64 (16 * t360)) + t361)) % 256) [.int .u8 ((wrap64 ((wrap64 (16 * t360)) + t361)) % 256)] (fun _ => True) (fun _ => False) rfl rfl ?aP (fun _ hk => hk.elim) ?aF ?aO ?aB ?aS ?aL ?_
                         (case aP => exact rfl)
                         (case aB => exact x61_0)
                         (case aF => exact (fun _ _ => trivial))
                         (case aO => exact x61_4)
                         (case aS => exact (below_size x61_0))
                         (case aL => have := LMc76.out; omega)
                         intro v363 w78 ho hb hg hat
                         rw [← Ny362.out] at ho
                         have n0_ := Aside0.mk (blk_grown (g := gb320) (o := .cells #[.int .i64 x321000_1, .int .i64 x321001_1, .string x321002_1, .int .i64 x321003_1, .int .u64 x321004_1] 30 (0, 0)) x61_5 hg (Kd.R_ne HO_7.out BK320.out (by decide)))
                         have n1_ := Aside0.mk (blk_grown (g := gb321) (o := .cells #[.int .i64 x322000_1, .int .i64 x322001_1] 25 (0, 0)) x61_6 hg (Kd.R_ne HO_7.out BK321.out (by decide)))
                         have n2_ := Aside0.mk (hb)
                         have n3_ := Aside0.mk (ho)
                         clear BK320
                         clear BK321
                         clear HB
                         clear HO_7
                         have BK320 := n0_
                         have BK321 := n1_
                         have HB := n2_
                         have HO364 := n3_
                         clear n0_ n1_ n2_ n3_
                         clear ho hb hg hat
                         refine hK.out _ _ trivial (fun hHeld => ?_)
                         clear hK K
                         refine norm_ (a' := ?_) ?_ ?_
                         rotate_left
                         ·show Act.put _ (some 114) _ = _
                          simp only [Act.put, List.setIfInBounds_toArray, List.set_cons_zero, List.set_cons_succ, i64_w, i32_w]
                          rfl
                         refine pure_ (i := 16) (N := some 7) (v := ?_) (a' := ?_) #[true, true, true, true, true, true, true, true, true, true, true, true, true, true, true, true, true] rfl rfl (any_of HT_.out (by kernel_rfl)) (fun _ _ _ h => h) (Or.inl ⟨by rfl, ?_⟩) ?_ ?_
                         rotate_left
                         ·intro w'
                          go_simp
                          with_reducible rfl
                         rotate_left
                         ·simp only [Act.put, List.setIfInBounds_toArray, List.set_cons_zero, List.set_cons_succ, i64_w, i32_w]
                          rfl
                         refine done_ (done_of HT_.out (by kernel_rfl)) ?_
                         try go_wp2
                         go_roundg kj50
                         case measure => have := HK1.out; have := HJ14.out; have := HJ29.out; have := HJ50.out; omega
                         case rel => exact ⟨(y362), (wrap64 ((ji71) + 1)), (x321000_1), (x321001_1), (x321002_1), (x321003_1), (x321004_1), (x322000_1), (x322001_1), (by first | rfl | (simp; done) | (simp only [← hji71] <;> (first | rfl | simp)) | (simp [*]; done)), H', ⟨by have := HK1.out; have := HJ14.out; have := HJ29.out; have := HJ50.out; omega⟩, ⟨by (with_reducible repeat (first | apply Kd.R_alloc | apply Kd.R_drewN | apply Kd.R_drew)); exact HO364.out⟩, ⟨x61_5⟩, ⟨x61_6⟩, ⟨x61_0⟩⟩
                        ·rw [if_neg c76] at H
                         exact absurd H (by simp)
                       ·rw [if_neg c73] at H
                        exact absurd H (by simp)
                      ·rw [if_neg c72] at H
                       exact absurd H (by simp)
                     ·rw [if_neg c68] at H
                      exact absurd H (by simp)
                    ·rw [if_neg c67] at H
                     exact absurd H (by simp)
                   ·replace c65 := Bool.eq_false_iff.mpr c65
                    subst c65
                    rw [if_neg (show ¬ (false = true) by decide)] at H
                    replace H := Option.bind_eq_some_iff.mp H
                    obtain ⟨⟨t365, t366, t367, t368, t369, t370, t371, t372⟩, A790, H⟩ := H
                    replace H : (some (t365, t366, t367, t368, t369, t370, t371, t372)) = some (r1, r2, r3, r4, r5, r6, r7, r8) := H
                    have A79 := Aside0.mk A790
                    clear A790
                    simp only [Option.some.injEq, Prod.mk.injEq] at H
                    obtain ⟨rfl, rfl, rfl, rfl, rfl, rfl, rfl, rfl⟩ := H
                    go_wp2_with (first | ((with_reducible refine gate_callee (f := 34) rfl ?_); refine goesL_ (some 118) rfl rfl Tryd.func34 (by kernel_rfl) rfl #[.int .i64 61, .int .i64 a1] rfl x61_2 ?_; (with_reducible refine (casketref11_fault.calls 61 a1 t365 t366 t367 t368 t369 t370 t371 t372 _ A79.out).mono ?_); rintro e w80 ⟨rfl, hb⟩; refine ⟨_, rfl, ?_⟩; have n0_ := Aside0.mk (Kd.R_below x61_4 hb); have n1_ := Aside0.mk (blk_below (g := gb320) (o := .cells #[.int .i64 x321000_1, .int .i64 x321001_1, .string x321002_1, .int .i64 x321003_1, .int .u64 x321004_1] 30 (0, 0)) x61_5 hb); have n2_ := Aside0.mk (blk_below (g := gb321) (o := .cells #[.int .i64 x322000_1, .int .i64 x322001_1] 25 (0, 0)) x61_6 hb); have n3_ := Aside0.mk (below_step x61_0 hb); clear HO_7; clear BK320; clear BK321; clear HB; have HO_7 := n0_; have BK320 := n1_; have BK321 := n2_; have HB := n3_; clear n0_ n1_ n2_ n3_; have hnb81 := NB320_321.out; have hnc81 := NB321_320.out; have hcz82_0 : w80.cell? ⟨gb320, 0, none⟩ = some (.int .i64 x321000_1) := (blk_cell BK320.out 0).trans rfl; have hcz82_1 : w80.cell? ⟨gb320, 1, none⟩ = some (.int .i64 x321001_1) := (blk_cell BK320.out 1).trans rfl; have hcz82_2 : w80.cell? ⟨gb320, 2, none⟩ = some (.string x321002_1) := (blk_cell BK320.out 2).trans rfl; have hcz82_3 : w80.cell? ⟨gb320, 3, none⟩ = some (.int .i64 x321003_1) := (blk_cell BK320.out 3).trans rfl; have hcz82_4 : w80.cell? ⟨gb320, 4, none⟩ = some (.int .u64 x321004_1) := (blk_cell BK320.out 4).trans rfl; have hfz82_0 := blk_frozen BK320.out 0; have hfz82_1 := blk_frozen BK320.out 1; have hfz82_2 := blk_frozen BK320.out 2; have hfz82_3 := blk_frozen BK320.out 3; have hfz82_4 := blk_frozen BK320.out 4; have hcz83_0 : w80.cell? ⟨gb321, 0, none⟩ = some (.int .i64 x322000_1) := (blk_cell BK321.out 0).trans rfl; have hcz83_1 : w80.cell? ⟨gb321, 1, none⟩ = some (.int .i64 x322001_1) := (blk_cell BK321.out 1).trans rfl; have hfz83_0 := blk_frozen BK321.out 0; have hfz83_1 := blk_frozen BK321.out 1))
                    refine bodyPost_ret (results_list (rs := [.cell 4 30, .tmp 5, .cell 6 25]) rfl (by simp) (.cell gb320 30 #[.int .i64 t365, .int .i64 t366, .string t367, .int .i64 t368, .int .u64 t369] (0, 0) _ rfl (by (with_reducible repeat first | apply blk_drewN | apply blk_drew | apply blk_alloc); refine blk_far ?_ NB320_321.out _; (with_reducible repeat first | apply blk_drewN | apply blk_drew | apply blk_alloc); refine blk_far ?_ NB320_321.out _; (with_reducible repeat first | apply blk_drewN | apply blk_drew | apply blk_alloc); refine blk_put (cs := #[.int .i64 t365, .int .i64 t366, .string t367, .int .i64 t368, .int .u64 x321004_1]) ?_ 4 _ rfl; (with_reducible repeat first | apply blk_drewN | apply blk_drew | apply blk_alloc); refine blk_put (cs := #[.int .i64 t365, .int .i64 t366, .string t367, .int .i64 x321003_1, .int .u64 x321004_1]) ?_ 3 _ rfl; (with_reducible repeat first | apply blk_drewN | apply blk_drew | apply blk_alloc); refine blk_put (cs := #[.int .i64 t365, .int .i64 t366, .string x321002_1, .int .i64 x321003_1, .int .u64 x321004_1]) ?_ 2 _ rfl; (with_reducible repeat first | apply blk_drewN | apply blk_drew | apply blk_alloc); refine blk_put (cs := #[.int .i64 t365, .int .i64 x321001_1, .string x321002_1, .int .i64 x321003_1, .int .u64 x321004_1]) ?_ 1 _ rfl; (with_reducible repeat first | apply blk_drewN | apply blk_drew | apply blk_alloc); refine blk_put (cs := #[.int .i64 x321000_1, .int .i64 x321001_1, .string x321002_1, .int .i64 x321003_1, .int .u64 x321004_1]) ?_ 0 _ rfl; (with_reducible repeat first | apply blk_drewN | apply blk_drew | apply blk_alloc); exact BK320.out) Tryd.underlying30 rfl (by kernel_rfl) (.tmp (.cell gb321 25 #[.int .i64 t371, .int .i64 t372] (0, 0) _ rfl (by (with_reducible repeat first | apply blk_drewN | apply blk_drew | apply blk_alloc); refine blk_put (cs := #[.int .i64 t371, .int .i64 x322001_1]) ?_ 1 _ rfl; (with_reducible repeat first | apply blk_drewN | apply blk_drew | apply blk_alloc); refine blk_put (cs := #[.int .i64 x322000_1, .int .i64 x322001_1]) ?_ 0 _ rfl; (with_reducible repeat first | apply blk_drewN | apply blk_drew | apply blk_alloc); refine blk_far ?_ NB321_320.out _; (with_reducible repeat first | apply blk_drewN | apply blk_drew | apply blk_alloc); refine blk_far ?_ NB321_320.out _; (with_reducible repeat first | apply blk_drewN | apply blk_drew | apply blk_alloc); refine blk_far ?_ NB321_320.out _; (with_reducible repeat first | apply blk_drewN | apply blk_drew | apply blk_alloc); refine blk_far ?_ NB321_320.out _; (with_reducible repeat first | apply blk_drewN | apply blk_drew | apply blk_alloc); refine blk_far ?_ NB321_320.out _; (with_reducible repeat first | apply blk_drewN | apply blk_drew | apply blk_alloc); exact BK321.out) Tryd.underlying25 rfl (by kernel_rfl) .nil)))) rfl ?_
                    exact ⟨by first | rfl | (simp [errW_none, errW_some] <;> rfl) | (simp only [← hji44]; first | rfl | (simp [errW_none, errW_some] <;> rfl)) | (simp [*, errW_none, errW_some] <;> rfl), x61_0⟩
               ·rw [if_neg c46] at H
                exact absurd H (by simp)
              ·rw [if_neg c45] at H
               exact absurd H (by simp)
         ·rw [if_neg c23] at H
          have c23b0 := beq_eq_false_iff_ne.mpr c23
          have c23b1 := bne_iff_ne.mpr c23
          by_cases c84 : x7_1.length < 140737488355328
          ·rw [if_pos c84] at H
           have LMc84 := Aside0.mk c84
           clear c84
           obtain ⟨y341, hy341⟩ : ∃ y_ : List Int, y_ = (x7_1 ++ [(bt a0 x8_1)]) := ⟨_, rfl⟩
           replace H : (casketref11_text.l0 kj14 a0 a1 y341 (wrap64 (x8_1 + 1))) = some (r1, r2, r3, r4, r5, r6, r7, r8) := by first | (rw [hy341]; with_reducible exact H) | (have H2_ := (Option.bind_some _ _).symm.trans H; rw [hy341]; with_reducible exact H2_) | (have H2_ := (Option.bind_some _ _).symm.trans H; with_reducible exact H2_) | with_reducible exact H | (rw [hy341]; exact H) | exact H
           have Ny341 := Aside0.mk hy341
           clear hy341
           have H' := Aside0.mk H
           clear H
           go_wp2_with (first | ((with_reducible refine gate_builtin (b := .append) (xs := #[.tmp 39, .tmp 41]) rfl ?_); (try (refine gate_guard (by rfl) ?_; dsimp only)); at_builtin; refine Kd.R_append (Kd.int .u8) (w0 := w) w.heap.size rfl (.tmp 39) (.tmp 41) 36 5 (.int .u8 0) 1 rfl Tryd.underlying36 info5 rfl (by decide) (by omega) u7 x7_1 (bt a0 x8_1) [.int .u8 (bt a0 x8_1)] (fun _ => True) (fun _ => False) rfl rfl ?aP (fun _ hk => hk.elim) ?aF ?aO ?aB ?aS ?aL ?_; (case aP => exact rfl); (case aB => exact x61_0); (case aF => exact (fun _ _ => trivial)); (case aO => exact x61_4); (case aS => exact (below_size x61_0)); (case aL => have := LMc84.out; omega); intro v342 w85 ho hb hg hat; rw [← Ny341.out] at ho; have n0_ := Aside0.mk (blk_grown (g := gb320) (o := .cells #[.int .i64 x321000_1, .int .i64 x321001_1, .string x321002_1, .int .i64 x321003_1, .int .u64 x321004_1] 30 (0, 0)) x61_5 hg (Kd.R_ne HO_7.out BK320.out (by decide))); have n1_ := Aside0.mk (blk_grown (g := gb321) (o := .cells #[.int .i64 x322000_1, .int .i64 x322001_1] 25 (0, 0)) x61_6 hg (Kd.R_ne HO_7.out BK321.out (by decide))); have n2_ := Aside0.mk (hb); have n3_ := Aside0.mk (ho); clear BK320; clear BK321; clear HB; clear HO_7; have BK320 := n0_; have BK321 := n1_; have HB := n2_; have HO343 := n3_; clear n0_ n1_ n2_ n3_; clear ho hb hg hat))
           go_roundg kj14
           case measure => have := HK1.out; have := HJ14.out; omega
           case rel => exact ⟨(y341), (wrap64 (x8_1 + 1)), (x321000_1), (x321001_1), (x321002_1), (x321003_1), (x321004_1), (x322000_1), (x322001_1), x61_13, H', ⟨by have := HK1.out; have := HJ14.out; omega⟩, ⟨by (with_reducible repeat (first | apply Kd.R_alloc | apply Kd.R_drewN | apply Kd.R_drew)); exact HO343.out⟩, ⟨x61_5⟩, ⟨x61_6⟩, ⟨x61_0⟩⟩
          ·rw [if_neg c84] at H
           exact absurd H (by simp)
    ·rw [if_neg c8] at H
     exact absurd H (by simp)
   ·rw [if_neg c7] at H
    have c7b0 := decide_eq_false c7
    clear c7
    replace H := Option.bind_eq_some_iff.mp H
    obtain ⟨⟨t325, t326, t327, t328, t329, t330, t331, t332⟩, A860, H⟩ := H
    replace H : (some (t325, t326, t327, t328, t329, t330, t331, t332)) = some (r1, r2, r3, r4, r5, r6, r7, r8) := H
    have A86 := Aside0.mk A860
    clear A860
    simp only [Option.some.injEq, Prod.mk.injEq] at H
    obtain ⟨rfl, rfl, rfl, rfl, rfl, rfl, rfl, rfl⟩ := H
    go_wp2_with (first | ((with_reducible refine gate_callee (f := 34) rfl ?_); refine goesL_ (some 118) rfl rfl Tryd.func34 (by kernel_rfl) rfl #[.int .i64 61, .int .i64 a1] rfl x61_2 ?_; (with_reducible refine (casketref11_fault.calls 61 a1 t325 t326 t327 t328 t329 t330 t331 t332 _ A86.out).mono ?_); rintro e w87 ⟨rfl, hb⟩; refine ⟨_, rfl, ?_⟩; have n0_ := Aside0.mk (Kd.R_below x61_4 hb); have n1_ := Aside0.mk (blk_below (g := gb320) (o := .cells #[.int .i64 x321000_1, .int .i64 x321001_1, .string x321002_1, .int .i64 x321003_1, .int .u64 x321004_1] 30 (0, 0)) x61_5 hb); have n2_ := Aside0.mk (blk_below (g := gb321) (o := .cells #[.int .i64 x322000_1, .int .i64 x322001_1] 25 (0, 0)) x61_6 hb); have n3_ := Aside0.mk (below_step x61_0 hb); clear HO_7; clear BK320; clear BK321; clear HB; have HO_7 := n0_; have BK320 := n1_; have BK321 := n2_; have HB := n3_; clear n0_ n1_ n2_ n3_; have hnb88 := NB320_321.out; have hnc88 := NB321_320.out; have hcz89_0 : w87.cell? ⟨gb320, 0, none⟩ = some (.int .i64 x321000_1) := (blk_cell BK320.out 0).trans rfl; have hcz89_1 : w87.cell? ⟨gb320, 1, none⟩ = some (.int .i64 x321001_1) := (blk_cell BK320.out 1).trans rfl; have hcz89_2 : w87.cell? ⟨gb320, 2, none⟩ = some (.string x321002_1) := (blk_cell BK320.out 2).trans rfl; have hcz89_3 : w87.cell? ⟨gb320, 3, none⟩ = some (.int .i64 x321003_1) := (blk_cell BK320.out 3).trans rfl; have hcz89_4 : w87.cell? ⟨gb320, 4, none⟩ = some (.int .u64 x321004_1) := (blk_cell BK320.out 4).trans rfl; have hfz89_0 := blk_frozen BK320.out 0; have hfz89_1 := blk_frozen BK320.out 1; have hfz89_2 := blk_frozen BK320.out 2; have hfz89_3 := blk_frozen BK320.out 3; have hfz89_4 := blk_frozen BK320.out 4; have hcz90_0 : w87.cell? ⟨gb321, 0, none⟩ = some (.int .i64 x322000_1) := (blk_cell BK321.out 0).trans rfl; have hcz90_1 : w87.cell? ⟨gb321, 1, none⟩ = some (.int .i64 x322001_1) := (blk_cell BK321.out 1).trans rfl; have hfz90_0 := blk_frozen BK321.out 0; have hfz90_1 := blk_frozen BK321.out 1))
    refine bodyPost_ret (results_list (rs := [.cell 4 30, .tmp 5, .cell 6 25]) rfl (by simp) (.cell gb320 30 #[.int .i64 t325, .int .i64 t326, .string t327, .int .i64 t328, .int .u64 t329] (0, 0) _ rfl (by (with_reducible repeat first | apply blk_drewN | apply blk_drew | apply blk_alloc); refine blk_far ?_ NB320_321.out _; (with_reducible repeat first | apply blk_drewN | apply blk_drew | apply blk_alloc); refine blk_far ?_ NB320_321.out _; (with_reducible repeat first | apply blk_drewN | apply blk_drew | apply blk_alloc); refine blk_put (cs := #[.int .i64 t325, .int .i64 t326, .string t327, .int .i64 t328, .int .u64 x321004_1]) ?_ 4 _ rfl; (with_reducible repeat first | apply blk_drewN | apply blk_drew | apply blk_alloc); refine blk_put (cs := #[.int .i64 t325, .int .i64 t326, .string t327, .int .i64 x321003_1, .int .u64 x321004_1]) ?_ 3 _ rfl; (with_reducible repeat first | apply blk_drewN | apply blk_drew | apply blk_alloc); refine blk_put (cs := #[.int .i64 t325, .int .i64 t326, .string x321002_1, .int .i64 x321003_1, .int .u64 x321004_1]) ?_ 2 _ rfl; (with_reducible repeat first | apply blk_drewN | apply blk_drew | apply blk_alloc); refine blk_put (cs := #[.int .i64 t325, .int .i64 x321001_1, .string x321002_1, .int .i64 x321003_1, .int .u64 x321004_1]) ?_ 1 _ rfl; (with_reducible repeat first | apply blk_drewN | apply blk_drew | apply blk_alloc); refine blk_put (cs := #[.int .i64 x321000_1, .int .i64 x321001_1, .string x321002_1, .int .i64 x321003_1, .int .u64 x321004_1]) ?_ 0 _ rfl; (with_reducible repeat first | apply blk_drewN | apply blk_drew | apply blk_alloc); exact BK320.out) Tryd.underlying30 rfl (by kernel_rfl) (.tmp (.cell gb321 25 #[.int .i64 t331, .int .i64 t332] (0, 0) _ rfl (by (with_reducible repeat first | apply blk_drewN | apply blk_drew | apply blk_alloc); refine blk_put (cs := #[.int .i64 t331, .int .i64 x322001_1]) ?_ 1 _ rfl; (with_reducible repeat first | apply blk_drewN | apply blk_drew | apply blk_alloc); refine blk_put (cs := #[.int .i64 x322000_1, .int .i64 x322001_1]) ?_ 0 _ rfl; (with_reducible repeat first | apply blk_drewN | apply blk_drew | apply blk_alloc); refine blk_far ?_ NB321_320.out _; (with_reducible repeat first | apply blk_drewN | apply blk_drew | apply blk_alloc); refine blk_far ?_ NB321_320.out _; (with_reducible repeat first | apply blk_drewN | apply blk_drew | apply blk_alloc); refine blk_far ?_ NB321_320.out _; (with_reducible repeat first | apply blk_drewN | apply blk_drew | apply blk_alloc); refine blk_far ?_ NB321_320.out _; (with_reducible repeat first | apply blk_drewN | apply blk_drew | apply blk_alloc); refine blk_far ?_ NB321_320.out _; (with_reducible repeat first | apply blk_drewN | apply blk_drew | apply blk_alloc); exact BK321.out) Tryd.underlying25 rfl (by kernel_rfl) .nil)))) rfl ?_
    exact ⟨x61_7, x61_0⟩
end Go.Proofs.YtjolkombhdibcaaDoor.Print
end
section
namespace Go.Proofs.YtjolkombhdibcaaDoor.Print
open Go.RowKit Go.Proofs.YtjolkombhdibcaaDoor.Given Go.Proofs.YtjolkombhdibcaaDoorW.PrintWords Go.Proofs.YtjolkombhdibcaaDoorW.PrintLast Go.Proofs.YtjolkombhdibcaaDoorW.PrintMore
attribute [local go_sem] max2_int min2_int max_two min_two max_three min_three max_four min_four
set_option linter.unusedVariables false
set_option linter.unusedSimpArgs false
theorem x62_12 {p : Prop} (h : p := by first | rfl | (simp; done) | (simp [*]; done)) : p := h
theorem x62_11 {p : Prop} (h : p := by first | (with_reducible assumption) | assumption) : p := h
theorem x62_10 {p : Prop} (h : p := by repeat (first | exact Drawn0.refl _ | apply Drawn0.step)) : p := h
theorem x62_9 {p : Prop} (h : p := by first | rfl | (simp [errW_none, errW_some] <;> rfl) | (simp [*, errW_none, errW_some] <;> rfl)) : p := h
theorem x62_8 {p : Prop} (h : p := by (with_reducible repeat first | apply blk_drewN | apply blk_drew | apply blk_alloc); exact BK374.out) : p := h
theorem x62_7 {p : Prop} (h : p := by (with_reducible repeat first | apply blk_drewN | apply blk_drew | apply blk_alloc); exact BK373.out) : p := h
theorem x62_6 {p : Prop} (h : p := by rw [← hq_]; exact x62_8) : p := h
theorem x62_5 {p : Prop} (h : p := by rw [← hq_]; exact x62_7) : p := h
theorem x62_4 {p : Prop} (h : p := by repeat (first | (with_reducible first | exact HB.out | apply below_alloc | apply pw_below_drewN | apply below_drew1) | exact HB.out)) : p := h
theorem x62_3 {p : Prop} (h : p := by (try simp only [List.map_toArray, List.map_cons, List.map_nil]); first | done | rfl | (simp only [List.length_drop, List.length_take]; rfl)) : p := h
theorem x62_2 {p : Prop} (h : p := by repeat (first | (with_reducible first | exact HB.out | apply below_alloc | apply pw_below_drewN | apply below_drew1 | refine below_set ?_ GE373.out) | exact HB.out)) : p := h
theorem x62_1 {p : Prop} (h : p := by repeat (first | (with_reducible first | exact HB.out | apply below_alloc | apply pw_below_drewN | apply below_drew1 | refine below_set ?_ GE373.out | refine below_set ?_ GE374.out) | exact HB.out)) : p := h
theorem x62_0 {p : Prop} (h : p := by rw [← hq_]; exact x62_1) : p := h
def casketref11_mark.f (a0 : ByteArray) : Option (Bool) := if a0.toList = ([61, 61] : List UInt8) then (some true) else (if a0.toList = ([33, 61] : List UInt8) then (some true) else (if a0.toList = ([60, 61] : List UInt8) then (some true) else (if a0.toList = ([62, 61] : List UInt8) then (some true) else (if a0.toList = ([60, 60] : List UInt8) then (some true) else (if a0.toList = ([62, 62] : List UInt8) then (some true) else (if a0.toList = ([47, 47] : List UInt8) then (some true) else (if a0.toList = ([46, 46] : List UInt8) then (some true) else (if a0.toList = ([43] : List UInt8) then (some true) else (if a0.toList = ([45] : List UInt8) then (some true) else (if a0.toList = ([42] : List UInt8) then (some true) else (if a0.toList = ([47] : List UInt8) then (some true) else (if a0.toList = ([37] : List UInt8) then (some true) else (if a0.toList = ([38] : List UInt8) then (some true) else (if a0.toList = ([124] : List UInt8) then (some true) else (if a0.toList = ([94] : List UInt8) then (some true) else (if a0.toList = ([126] : List UInt8) then (some true) else (if a0.toList = ([60] : List UInt8) then (some true) else (if a0.toList = ([62] : List UInt8) then (some true) else (if a0.toList = ([61] : List UInt8) then (some true) else (if a0.toList = ([40] : List UInt8) then (some true) else (if a0.toList = ([41] : List UInt8) then (some true) else (if a0.toList = ([123] : List UInt8) then (some true) else (if a0.toList = ([125] : List UInt8) then (some true) else (if a0.toList = ([91] : List UInt8) then (some true) else (if a0.toList = ([93] : List UInt8) then (some true) else (if a0.toList = ([44] : List UInt8) then (some true) else (if a0.toList = ([59] : List UInt8) then (some true) else (if a0.toList = ([58] : List UInt8) then (some true) else (some false)))))))))))))))))))))))))))))
set_option maxHeartbeats 8000000 in
set_option maxRecDepth 100000 in
theorem casketref11_mark.calls (a0 : ByteArray) (r : Bool) (w : World) (h : casketref11_mark.f a0 = some r) :
  Calls Tryd.prog 33 #[.string a0] w fun e w' => e = .returned (.bool r) ∧ Drawn0 w w' := by
 have H : (if a0.toList = ([61, 61] : List UInt8) then (some true) else (if a0.toList = ([33, 61] : List UInt8) then (some true) else (if a0.toList = ([60, 61] : List UInt8) then (some true) else (if a0.toList = ([62, 61] : List UInt8) then (some true) else (if a0.toList = ([60, 60] : List UInt8) then (some true) else (if a0.toList = ([62, 62] : List UInt8) then (some true) else (if a0.toList = ([47, 47] : List UInt8) then (some true) else (if a0.toList = ([46, 46] : List UInt8) then (some true) else (if a0.toList = ([43] : List UInt8) then (some true) else (if a0.toList = ([45] : List UInt8) then (some true) else (if a0.toList = ([42] : List UInt8) then (some true) else (if a0.toList = ([47] : List UInt8) then (some true) else (if a0.toList = ([37] : List UInt8) then (some true) else (if a0.toList = ([38] : List UInt8) then (some true) else (if a0.toList = ([124] : List UInt8) then (some true) else (if a0.toList = ([94] : List UInt8) then (some true) else (if a0.toList = ([126] : List UInt8) then (some true) else (if a0.toList = ([60] : List UInt8) then (some true) else (if a0.toList = ([62] : List UInt8) then (some true) else (if a0.toList = ([61] : List UInt8) then (some true) else (if a0.toList = ([40] : List UInt8) then (some true) else (if a0.toList = ([41] : List UInt8) then (some true) else (if a0.toList = ([123] : List UInt8) then (some true) else (if a0.toList = ([125] : List UInt8) then (some true) else (if a0.toList = ([91] : List UInt8) then (some true) else (if a0.toList = ([93] : List UInt8) then (some true) else (if a0.toList = ([44] : List UInt8) then (some true) else (if a0.toList = ([59] : List UInt8) then (some true) else (if a0.toList = ([58] : List UInt8) then (some true) else (some false)))))))))))))))))))))))))))))) = some r := h
 clear h
 by_cases c2 : a0.toList = ([61, 61] : List UInt8)
 ·rw [if_pos c2] at H
  have c2b0 := beq_iff_eq.mpr c2
  have c2b1 := bne_eq_false_iff_eq.mpr c2
  clear c2
  obtain rfl := Option.some.inj H
  go_enter Tryd.func33, Tryd.ntmps33
  go_wp2
  go_ret
  exact ⟨x62_12, x62_10⟩
 ·rw [if_neg c2] at H
  have c2b0 := beq_eq_false_iff_ne.mpr c2
  have c2b1 := bne_iff_ne.mpr c2
  by_cases c3 : a0.toList = ([33, 61] : List UInt8)
  ·rw [if_pos c3] at H
   have c3b0 := beq_iff_eq.mpr c3
   have c3b1 := bne_eq_false_iff_eq.mpr c3
   clear c3
   obtain rfl := Option.some.inj H
   go_enter Tryd.func33, Tryd.ntmps33
   go_wp2
   go_ret
   exact ⟨x62_12, x62_10⟩
  ·rw [if_neg c3] at H
   have c3b0 := beq_eq_false_iff_ne.mpr c3
   have c3b1 := bne_iff_ne.mpr c3
   by_cases c4 : a0.toList = ([60, 61] : List UInt8)
   ·rw [if_pos c4] at H
    have c4b0 := beq_iff_eq.mpr c4
    have c4b1 := bne_eq_false_iff_eq.mpr c4
    clear c4
    obtain rfl := Option.some.inj H
    go_enter Tryd.func33, Tryd.ntmps33
    go_wp2
    go_ret
    exact ⟨x62_12, x62_10⟩
   ·rw [if_neg c4] at H
    have c4b0 := beq_eq_false_iff_ne.mpr c4
    have c4b1 := bne_iff_ne.mpr c4
    by_cases c5 : a0.toList = ([62, 61] : List UInt8)
    ·rw [if_pos c5] at H
     have c5b0 := beq_iff_eq.mpr c5
     have c5b1 := bne_eq_false_iff_eq.mpr c5
     clear c5
     obtain rfl := Option.some.inj H
     go_enter Tryd.func33, Tryd.ntmps33
     go_wp2
     go_ret
     exact ⟨x62_12, x62_10⟩
    ·rw [if_neg c5] at H
     have c5b0 := beq_eq_false_iff_ne.mpr c5
     have c5b1 := bne_iff_ne.mpr c5
     by_cases c6 : a0.toList = ([60, 60] : List UInt8)
     ·rw [if_pos c6] at H
      have c6b0 := beq_iff_eq.mpr c6
      have c6b1 := bne_eq_false_iff_eq.mpr c6
      clear c6
      obtain rfl := Option.some.inj H
      go_enter Tryd.func33, Tryd.ntmps33
      go_wp2
      go_ret
      exact ⟨x62_12, x62_10⟩
     ·rw [if_neg c6] at H
      have c6b0 := beq_eq_false_iff_ne.mpr c6
      have c6b1 := bne_iff_ne.mpr c6
      by_cases c7 : a0.toList = ([62, 62] : List UInt8)
      ·rw [if_pos c7] at H
       have c7b0 := beq_iff_eq.mpr c7
       have c7b1 := bne_eq_false_iff_eq.mpr c7
       clear c7
       obtain rfl := Option.some.inj H
       go_enter Tryd.func33, Tryd.ntmps33
       go_wp2
       go_ret
       exact ⟨x62_12, x62_10⟩
      ·rw [if_neg c7] at H
       have c7b0 := beq_eq_false_iff_ne.mpr c7
       have c7b1 := bne_iff_ne.mpr c7
       by_cases c8 : a0.toList = ([47, 47] : List UInt8)
       ·rw [if_pos c8] at H
        have c8b0 := beq_iff_eq.mpr c8
        have c8b1 := bne_eq_false_iff_eq.mpr c8
        clear c8
        obtain rfl := Option.some.inj H
        go_enter Tryd.func33, Tryd.ntmps33
        go_wp2
        go_ret
        exact ⟨x62_12, x62_10⟩
       ·rw [if_neg c8] at H
        have c8b0 := beq_eq_false_iff_ne.mpr c8
        have c8b1 := bne_iff_ne.mpr c8
        by_cases c9 : a0.toList = ([46, 46] : List UInt8)
        ·rw [if_pos c9] at H
         have c9b0 := beq_iff_eq.mpr c9
         have c9b1 := bne_eq_false_iff_eq.mpr c9
         clear c9
         obtain rfl := Option.some.inj H
         go_enter Tryd.func33, Tryd.ntmps33
         go_wp2
         go_ret
         exact ⟨x62_12, x62_10⟩
        ·rw [if_neg c9] at H
         have c9b0 := beq_eq_false_iff_ne.mpr c9
         have c9b1 := bne_iff_ne.mpr c9
         by_cases c10 : a0.toList = ([43] : List UInt8)
         ·rw [if_pos c10] at H
          have c10b0 := beq_iff_eq.mpr c10
          have c10b1 := bne_eq_false_iff_eq.mpr c10
          clear c10
          obtain rfl := Option.some.inj H
          go_enter Tryd.func33, Tryd.ntmps33
          go_wp2
          go_ret
          exact ⟨x62_12, x62_10⟩
         ·rw [if_neg c10] at H
          have c10b0 := beq_eq_false_iff_ne.mpr c10
          have c10b1 := bne_iff_ne.mpr c10
          by_cases c11 : a0.toList = ([45] : List UInt8)
          ·rw [if_pos c11] at H
           have c11b0 := beq_iff_eq.mpr c11
           have c11b1 := bne_eq_false_iff_eq.mpr c11
           clear c11
           obtain rfl := Option.some.inj H
           go_enter Tryd.func33, Tryd.ntmps33
           go_wp2
           go_ret
           exact ⟨x62_12, x62_10⟩
          ·rw [if_neg c11] at H
           have c11b0 := beq_eq_false_iff_ne.mpr c11
           have c11b1 := bne_iff_ne.mpr c11
           by_cases c12 : a0.toList = ([42] : List UInt8)
           ·rw [if_pos c12] at H
            have c12b0 := beq_iff_eq.mpr c12
            have c12b1 := bne_eq_false_iff_eq.mpr c12
            clear c12
            obtain rfl := Option.some.inj H
            go_enter Tryd.func33, Tryd.ntmps33
            go_wp2
            go_ret
            exact ⟨x62_12, x62_10⟩
           ·rw [if_neg c12] at H
            have c12b0 := beq_eq_false_iff_ne.mpr c12
            have c12b1 := bne_iff_ne.mpr c12
            by_cases c13 : a0.toList = ([47] : List UInt8)
            ·rw [if_pos c13] at H
             have c13b0 := beq_iff_eq.mpr c13
             have c13b1 := bne_eq_false_iff_eq.mpr c13
             clear c13
             obtain rfl := Option.some.inj H
             go_enter Tryd.func33, Tryd.ntmps33
             go_wp2
             go_ret
             exact ⟨x62_12, x62_10⟩
            ·rw [if_neg c13] at H
             have c13b0 := beq_eq_false_iff_ne.mpr c13
             have c13b1 := bne_iff_ne.mpr c13
             by_cases c14 : a0.toList = ([37] : List UInt8)
             ·rw [if_pos c14] at H
              have c14b0 := beq_iff_eq.mpr c14
              have c14b1 := bne_eq_false_iff_eq.mpr c14
              clear c14
              obtain rfl := Option.some.inj H
              go_enter Tryd.func33, Tryd.ntmps33
              go_wp2
              go_ret
              exact ⟨x62_12, x62_10⟩
             ·rw [if_neg c14] at H
              have c14b0 := beq_eq_false_iff_ne.mpr c14
              have c14b1 := bne_iff_ne.mpr c14
              by_cases c15 : a0.toList = ([38] : List UInt8)
              ·rw [if_pos c15] at H
               have c15b0 := beq_iff_eq.mpr c15
               have c15b1 := bne_eq_false_iff_eq.mpr c15
               clear c15
               obtain rfl := Option.some.inj H
               go_enter Tryd.func33, Tryd.ntmps33
               go_wp2
               go_ret
               exact ⟨x62_12, x62_10⟩
              ·rw [if_neg c15] at H
               have c15b0 := beq_eq_false_iff_ne.mpr c15
               have c15b1 := bne_iff_ne.mpr c15
               by_cases c16 : a0.toList = ([124] : List UInt8)
               ·rw [if_pos c16] at H
                have c16b0 := beq_iff_eq.mpr c16
                have c16b1 := bne_eq_false_iff_eq.mpr c16
                clear c16
                obtain rfl := Option.some.inj H
                go_enter Tryd.func33, Tryd.ntmps33
                go_wp2
                go_ret
                exact ⟨x62_12, x62_10⟩
               ·rw [if_neg c16] at H
                have c16b0 := beq_eq_false_iff_ne.mpr c16
                have c16b1 := bne_iff_ne.mpr c16
                by_cases c17 : a0.toList = ([94] : List UInt8)
                ·rw [if_pos c17] at H
                 have c17b0 := beq_iff_eq.mpr c17
                 have c17b1 := bne_eq_false_iff_eq.mpr c17
                 clear c17
                 obtain rfl := Option.some.inj H
                 go_enter Tryd.func33, Tryd.ntmps33
                 go_wp2
                 go_ret
                 exact ⟨x62_12, x62_10⟩
                ·rw [if_neg c17] at H
                 have c17b0 := beq_eq_false_iff_ne.mpr c17
                 have c17b1 := bne_iff_ne.mpr c17
                 by_cases c18 : a0.toList = ([126] : List UInt8)
                 ·rw [if_pos c18] at H
                  have c18b0 := beq_iff_eq.mpr c18
                  have c18b1 := bne_eq_false_iff_eq.mpr c18
                  clear c18
                  obtain rfl := Option.some.inj H
                  go_enter Tryd.func33, Tryd.ntmps33
                  go_wp2
                  go_ret
                  exact ⟨x62_12, x62_10⟩
                 ·rw [if_neg c18] at H
                  have c18b0 := beq_eq_false_iff_ne.mpr c18
                  have c18b1 := bne_iff_ne.mpr c18
                  by_cases c19 : a0.toList = ([60] : List UInt8)
                  ·rw [if_pos c19] at H
                   have c19b0 := beq_iff_eq.mpr c19
                   have c19b1 := bne_eq_false_iff_eq.mpr c19
                   clear c19
                   obtain rfl := Option.some.inj H
                   go_enter Tryd.func33, Tryd.ntmps33
                   go_wp2
                   go_ret
                   exact ⟨x62_12, x62_10⟩
                  ·rw [if_neg c19] at H
                   have c19b0 := beq_eq_false_iff_ne.mpr c19
                   have c19b1 := bne_iff_ne.mpr c19
                   by_cases c20 : a0.toList = ([62] : List UInt8)
                   ·rw [if_pos c20] at H
                    have c20b0 := beq_iff_eq.mpr c20
                    have c20b1 := bne_eq_false_iff_eq.mpr c20
                    clear c20
                    obtain rfl := Option.some.inj H
                    go_enter Tryd.func33, Tryd.ntmps33
                    go_wp2
                    go_ret
                    exact ⟨x62_12, x62_10⟩
                   ·rw [if_neg c20] at H
                    have c20b0 := beq_eq_false_iff_ne.mpr c20
                    have c20b1 := bne_iff_ne.mpr c20
                    by_cases c21 : a0.toList = ([61] : List UInt8)
                    ·rw [if_pos c21] at H
                     have c21b0 := beq_iff_eq.mpr c21
                     have c21b1 := bne_eq_false_iff_eq.mpr c21
                     clear c21
                     obtain rfl := Option.some.inj H
                     go_enter Tryd.func33, Tryd.ntmps33
                     go_wp2
                     go_ret
                     exact ⟨x62_12, x62_10⟩
                    ·rw [if_neg c21] at H
                     have c21b0 := beq_eq_false_iff_ne.mpr c21
                     have c21b1 := bne_iff_ne.mpr c21
                     by_cases c22 : a0.toList = ([40] : List UInt8)
                     ·rw [if_pos c22] at H
                      have c22b0 := beq_iff_eq.mpr c22
                      have c22b1 := bne_eq_false_iff_eq.mpr c22
                      clear c22
                      obtain rfl := Option.some.inj H
                      go_enter Tryd.func33, Tryd.ntmps33
                      go_wp2
                      go_ret
                      exact ⟨x62_12, x62_10⟩
                     ·rw [if_neg c22] at H
                      have c22b0 := beq_eq_false_iff_ne.mpr c22
                      have c22b1 := bne_iff_ne.mpr c22
                      by_cases c23 : a0.toList = ([41] : List UInt8)
                      ·rw [if_pos c23] at H
                       have c23b0 := beq_iff_eq.mpr c23
                       have c23b1 := bne_eq_false_iff_eq.mpr c23
                       clear c23
                       obtain rfl := Option.some.inj H
                       go_enter Tryd.func33, Tryd.ntmps33
                       go_wp2
                       go_ret
                       exact ⟨x62_12, x62_10⟩
                      ·rw [if_neg c23] at H
                       have c23b0 := beq_eq_false_iff_ne.mpr c23
                       have c23b1 := bne_iff_ne.mpr c23
                       by_cases c24 : a0.toList = ([123] : List UInt8)
                       ·rw [if_pos c24] at H
                        have c24b0 := beq_iff_eq.mpr c24
                        have c24b1 := bne_eq_false_iff_eq.mpr c24
                        clear c24
                        obtain rfl := Option.some.inj H
                        go_enter Tryd.func33, Tryd.ntmps33
                        go_wp2
                        go_ret
                        exact ⟨x62_12, x62_10⟩
                       ·rw [if_neg c24] at H
                        have c24b0 := beq_eq_false_iff_ne.mpr c24
                        have c24b1 := bne_iff_ne.mpr c24
                        by_cases c25 : a0.toList = ([125] : List UInt8)
                        ·rw [if_pos c25] at H
                         have c25b0 := beq_iff_eq.mpr c25
                         have c25b1 := bne_eq_false_iff_eq.mpr c25
                         clear c25
                         obtain rfl := Option.some.inj H
                         go_enter Tryd.func33, Tryd.ntmps33
                         go_wp2
                         go_ret
                         exact ⟨x62_12, x62_10⟩
                        ·rw [if_neg c25] at H
                         have c25b0 := beq_eq_false_iff_ne.mpr c25
                         have c25b1 := bne_iff_ne.mpr c25
                         by_cases c26 : a0.toList = ([91] : List UInt8)
                         ·rw [if_pos c26] at H
                          have c26b0 := beq_iff_eq.mpr c26
                          have c26b1 := bne_eq_false_iff_eq.mpr c26
                          clear c26
                          obtain rfl := Option.some.inj H
                          go_enter Tryd.func33, Tryd.ntmps33
                          go_wp2
                          go_ret
                          exact ⟨x62_12, x62_10⟩
                         ·rw [if_neg c26] at H
                          have c26b0 := beq_eq_false_iff_ne.mpr c26
                          have c26b1 := bne_iff_ne.mpr c26
                          by_cases c27 : a0.toList = ([93] : List UInt8)
                          ·rw [if_pos c27] at H
                           have c27b0 := beq_iff_eq.mpr c27
                           have c27b1 := bne_eq_false_iff_eq.mpr c27
                           clear c27
                           obtain rfl := Option.some.inj H
                           go_enter Tryd.func33, Tryd.ntmps33
                           go_wp2
                           go_ret
                           exact ⟨x62_12, x62_10⟩
                          ·rw [if_neg c27] at H
                           have c27b0 := beq_eq_false_iff_ne.mpr c27
                           have c27b1 := bne_iff_ne.mpr c27
                           by_cases c28 : a0.toList = ([44] : List UInt8)
                           ·rw [if_pos c28] at H
                            have c28b0 := beq_iff_eq.mpr c28
                            have c28b1 := bne_eq_false_iff_eq.mpr c28
                            clear c28
                            obtain rfl := Option.some.inj H
                            go_enter Tryd.func33, Tryd.ntmps33
                            go_wp2
                            go_ret
                            exact ⟨x62_12, x62_10⟩
                           ·rw [if_neg c28] at H
                            have c28b0 := beq_eq_false_iff_ne.mpr c28
                            have c28b1 := bne_iff_ne.mpr c28
                            by_cases c29 : a0.toList = ([59] : List UInt8)
                            ·rw [if_pos c29] at H
                             have c29b0 := beq_iff_eq.mpr c29
                             have c29b1 := bne_eq_false_iff_eq.mpr c29
                             clear c29
                             obtain rfl := Option.some.inj H
                             go_enter Tryd.func33, Tryd.ntmps33
                             go_wp2
                             go_ret
                             exact ⟨x62_12, x62_10⟩
                            ·rw [if_neg c29] at H
                             have c29b0 := beq_eq_false_iff_ne.mpr c29
                             have c29b1 := bne_iff_ne.mpr c29
                             by_cases c30 : a0.toList = ([58] : List UInt8)
                             ·rw [if_pos c30] at H
                              have c30b0 := beq_iff_eq.mpr c30
                              have c30b1 := bne_eq_false_iff_eq.mpr c30
                              clear c30
                              obtain rfl := Option.some.inj H
                              go_enter Tryd.func33, Tryd.ntmps33
                              go_wp2
                              go_ret
                              exact ⟨x62_12, x62_10⟩
                             ·rw [if_neg c30] at H
                              have c30b0 := beq_eq_false_iff_ne.mpr c30
                              have c30b1 := bne_iff_ne.mpr c30
                              obtain rfl := Option.some.inj H
                              go_enter Tryd.func33, Tryd.ntmps33
                              go_wp2
                              go_ret
                              exact ⟨x62_12, x62_10⟩
def casketref11_Next.l0 : Nat → ByteArray → Int → Int → Option (Int × Int × ByteArray × Int × Int × Int × Int × Int)
 | 0, _, _, _ => none
 | k + 1, x0, x1, x8 => if x8 ≥ 1 then (if (wrap64 (x1 + x8)) ≤ (x0.size : Int) then (if 0 ≤ x1 then (if x1 ≤ (wrap64 (x1 + x8)) then ((casketref11_mark.f (x0.extract (x1 : Int).toNat ((wrap64 (x1 + x8)) : Int).toNat)).bind fun t401 => (if t401 = true then (some (3, x1, x0.extract (x1 : Int).toNat ((wrap64 (x1 + x8)) : Int).toNat, 0, 0, wrap64 (x1 + x8), 0, 0)) else (casketref11_Next.l0 k x0 x1 (wrap64 (x8 - 1))))) else (none)) else (none)) else (casketref11_Next.l0 k x0 x1 (wrap64 (x8 - 1)))) else ((casketref11_fault.f 60 x1).bind fun bt402 => (some (bt402.1, bt402.2.1, bt402.2.2.1, bt402.2.2.2.1, bt402.2.2.2.2.1, bt402.2.2.2.2.2.1, bt402.2.2.2.2.2.2.1, bt402.2.2.2.2.2.2.2)))
def casketref11_Next.f (k : Nat) (a0 : ByteArray) (a1 : Int) : Option (Int × Int × ByteArray × Int × Int × Int × Int × Int) := if a1 = (a0.size : Int) then (some (7, a1, (⟨#[]⟩ : ByteArray), 0, 0, a1, 0, 0)) else (if 0 ≤ a1 then (if a1 < (a0.size : Int) then ((casketref11_starts.f (bt a0 a1)).bind fun t375 => (if t375 = true then ((casketref11_name.f k a0 a1).bind fun bt376 => (some (bt376.1, bt376.2.1, bt376.2.2.1, bt376.2.2.2.1, bt376.2.2.2.2.1, bt376.2.2.2.2.2.1, bt376.2.2.2.2.2.2.1, bt376.2.2.2.2.2.2.2))) else ((casketref11_digit.f (bt a0 a1)).bind fun t384 => (if t384 = true then ((casketref11_number.f k a0 a1).bind fun bt385 => (some (bt385.1, bt385.2.1, bt385.2.2.1, bt385.2.2.2.1, bt385.2.2.2.2.1, bt385.2.2.2.2.2.1, bt385.2.2.2.2.2.2.1, bt385.2.2.2.2.2.2.2))) else (if (bt a0 a1) = 34 then ((casketref11_text.f k a0 a1).bind fun bt393 => (some (bt393.1, bt393.2.1, bt393.2.2.1, bt393.2.2.2.1, bt393.2.2.2.2.1, bt393.2.2.2.2.2.1, bt393.2.2.2.2.2.2.1, bt393.2.2.2.2.2.2.2))) else (casketref11_Next.l0 k a0 a1 2)))))) else (none)) else (none))
set_option maxHeartbeats 8000000 in
set_option maxRecDepth 100000 in
theorem casketref11_Next.calls (k : Nat) (a0 : ByteArray) (a1 : Int) (r1 : Int) (r2 : Int) (r3 : ByteArray) (r4 : Int) (r5 : Int) (r6 : Int) (r7 : Int) (r8 : Int) (w : World) (h : casketref11_Next.f k a0 a1 = some (r1, r2, r3, r4, r5, r6, r7, r8)) :
  Calls Tryd.prog 16 #[.string a0, .int .i64 a1] w fun e w' => e = .returned (.tuple #[.agg #[.int .i64 r1, .int .i64 r2, .string r3, .int .i64 r4, .int .u64 r5], .int .i64 r6, .agg #[.int .i64 r7, .int .i64 r8]]) ∧ Below w.heap.size w w' := by
 have hu30 := Tryd.underlying30
 have hu25 := Tryd.underlying25
 have HB := Aside0.mk (Below.refl w.heap.size w)
 have H : (if a1 = (a0.size : Int) then (some (7, a1, (⟨#[]⟩ : ByteArray), 0, 0, a1, 0, 0)) else (if 0 ≤ a1 then (if a1 < (a0.size : Int) then ((casketref11_starts.f (bt a0 a1)).bind fun t375 => (if t375 = true then ((casketref11_name.f k a0 a1).bind fun bt376 => (some (bt376.1, bt376.2.1, bt376.2.2.1, bt376.2.2.2.1, bt376.2.2.2.2.1, bt376.2.2.2.2.2.1, bt376.2.2.2.2.2.2.1, bt376.2.2.2.2.2.2.2))) else ((casketref11_digit.f (bt a0 a1)).bind fun t384 => (if t384 = true then ((casketref11_number.f k a0 a1).bind fun bt385 => (some (bt385.1, bt385.2.1, bt385.2.2.1, bt385.2.2.2.1, bt385.2.2.2.2.1, bt385.2.2.2.2.2.1, bt385.2.2.2.2.2.2.1, bt385.2.2.2.2.2.2.2))) else (if (bt a0 a1) = 34 then ((casketref11_text.f k a0 a1).bind fun bt393 => (some (bt393.1, bt393.2.1, bt393.2.2.1, bt393.2.2.2.1, bt393.2.2.2.2.1, bt393.2.2.2.2.2.1, bt393.2.2.2.2.2.2.1, bt393.2.2.2.2.2.2.2))) else (casketref11_Next.l0 k a0 a1 2)))))) else (none)) else (none))) = some (r1, r2, r3, r4, r5, r6, r7, r8) := h
 clear h
 by_cases c3 : a1 = (a0.size : Int)
 ·rw [if_pos c3] at H
  have c3b0 := beq_iff_eq.mpr c3
  have c3b1 := bne_eq_false_iff_eq.mpr c3
  clear c3
  simp only [Option.some.injEq, Prod.mk.injEq] at H
  obtain ⟨rfl, rfl, rfl, rfl, rfl, rfl, rfl, rfl⟩ := H
  go_enter Tryd.func16, Tryd.ntmps16
  go_wp2_with (first | ((with_reducible refine gate_dst (N := 4) rfl ?_); refine box_event ?hg (N := 4) ?hd (cs := #[.int .i64 0, .int .i64 0, .string (⟨#[]⟩ : ByteArray), .int .i64 0, .int .u64 0]) (t := 30) ?hr ?_; (case hd => rfl); (case hg => rfl); (case hr => first | (go_simp; done) | (go_simp; rfl)); intro gb373 hg w4 hbox hb; have n0_ := Aside0.mk (below_step x62_4 hb); have n1_ := Aside0.mk (hbox); have n2_ := Aside0.mk ((by rw [hg]; exact (below_size x62_4) : w.heap.size ≤ gb373)); have n3_ := Aside0.mk ((by rw [hg]; exact (below_size x62_4) : w.heap.size ≤ gb373)); clear HB; have HB := n0_; have BK373 := n1_; have GW373 := n2_; have GE373 := n3_; clear n0_ n1_ n2_ n3_; clear hb hbox hg) | ((with_reducible refine gate_dst (N := 6) rfl ?_); refine box_event ?hg (N := 6) ?hd (cs := #[.int .i64 0, .int .i64 0]) (t := 25) ?hr ?_; (case hd => rfl); (case hg => rfl); (case hr => first | (go_simp; done) | (go_simp; rfl)); intro gb374 hg w5 hbox hb; have n0_ := Aside0.mk (blk_below (g := gb373) (o := .cells #[.int .i64 0, .int .i64 0, .string (⟨#[]⟩ : ByteArray), .int .i64 0, .int .u64 0] 30 (0, 0)) x62_7 hb); have n1_ := Aside0.mk (below_step x62_2 hb); have n2_ := Aside0.mk (hbox); have n3_ := Aside0.mk ((by rw [hg]; exact (below_size x62_2) : w.heap.size ≤ gb374)); have n4_ := Aside0.mk ((by rw [hg]; exact (below_size x62_2) : w.heap.size ≤ gb374)); have n5_ := Aside0.mk ((by rw [hg]; exact Nat.ne_of_lt (blk_lt (g := gb373) (o := .cells #[.int .i64 0, .int .i64 0, .string (⟨#[]⟩ : ByteArray), .int .i64 0, .int .u64 0] 30 (0, 0)) x62_7) : gb373 ≠ gb374)); have n6_ := Aside0.mk ((by rw [hg]; exact Nat.ne_of_gt (blk_lt (g := gb373) (o := .cells #[.int .i64 0, .int .i64 0, .string (⟨#[]⟩ : ByteArray), .int .i64 0, .int .u64 0] 30 (0, 0)) x62_7) : gb374 ≠ gb373)); clear BK373; clear HB; have BK373 := n0_; have HB := n1_; have BK374 := n2_; have GW374 := n3_; have GE374 := n4_; have NB373_374 := n5_; have NB374_373 := n6_; clear n0_ n1_ n2_ n3_ n4_ n5_ n6_; clear hb hbox hg; have hnb6 := NB373_374.out; have hnc6 := NB374_373.out; have hcz7_0 : w5.cell? ⟨gb373, 0, none⟩ = some (.int .i64 0) := (blk_cell BK373.out 0).trans rfl; have hcz7_1 : w5.cell? ⟨gb373, 1, none⟩ = some (.int .i64 0) := (blk_cell BK373.out 1).trans rfl; have hcz7_2 : w5.cell? ⟨gb373, 2, none⟩ = some (.string (⟨#[]⟩ : ByteArray)) := (blk_cell BK373.out 2).trans rfl; have hcz7_3 : w5.cell? ⟨gb373, 3, none⟩ = some (.int .i64 0) := (blk_cell BK373.out 3).trans rfl; have hcz7_4 : w5.cell? ⟨gb373, 4, none⟩ = some (.int .u64 0) := (blk_cell BK373.out 4).trans rfl; have hfz7_0 := blk_frozen BK373.out 0; have hfz7_1 := blk_frozen BK373.out 1; have hfz7_2 := blk_frozen BK373.out 2; have hfz7_3 := blk_frozen BK373.out 3; have hfz7_4 := blk_frozen BK373.out 4; have hcz8_0 : w5.cell? ⟨gb374, 0, none⟩ = some (.int .i64 0) := (blk_cell BK374.out 0).trans rfl; have hcz8_1 : w5.cell? ⟨gb374, 1, none⟩ = some (.int .i64 0) := (blk_cell BK374.out 1).trans rfl; have hfz8_0 := blk_frozen BK374.out 0; have hfz8_1 := blk_frozen BK374.out 1))
  refine bodyPost_ret (results_list (rs := [.cell 4 30, .tmp 5, .cell 6 25]) rfl (by simp) (.cell gb373 30 #[.int .i64 7, .int .i64 a1, .string (⟨#[]⟩ : ByteArray), .int .i64 0, .int .u64 0] (0, 0) _ rfl (by (with_reducible repeat first | apply blk_drewN | apply blk_drew | apply blk_alloc); refine blk_far ?_ NB373_374.out _; (with_reducible repeat first | apply blk_drewN | apply blk_drew | apply blk_alloc); refine blk_far ?_ NB373_374.out _; (with_reducible repeat first | apply blk_drewN | apply blk_drew | apply blk_alloc); refine blk_put (cs := #[.int .i64 7, .int .i64 a1, .string (⟨#[]⟩ : ByteArray), .int .i64 0, .int .u64 0]) ?_ 4 _ rfl; (with_reducible repeat first | apply blk_drewN | apply blk_drew | apply blk_alloc); refine blk_put (cs := #[.int .i64 7, .int .i64 a1, .string (⟨#[]⟩ : ByteArray), .int .i64 0, .int .u64 0]) ?_ 3 _ rfl; (with_reducible repeat first | apply blk_drewN | apply blk_drew | apply blk_alloc); refine blk_put (cs := #[.int .i64 7, .int .i64 a1, .string (⟨#[]⟩ : ByteArray), .int .i64 0, .int .u64 0]) ?_ 2 _ rfl; (with_reducible repeat first | apply blk_drewN | apply blk_drew | apply blk_alloc); refine blk_put (cs := #[.int .i64 7, .int .i64 0, .string (⟨#[]⟩ : ByteArray), .int .i64 0, .int .u64 0]) ?_ 1 _ rfl; (with_reducible repeat first | apply blk_drewN | apply blk_drew | apply blk_alloc); refine blk_put (cs := #[.int .i64 0, .int .i64 0, .string (⟨#[]⟩ : ByteArray), .int .i64 0, .int .u64 0]) ?_ 0 _ rfl; (with_reducible repeat first | apply blk_drewN | apply blk_drew | apply blk_alloc); exact BK373.out) Tryd.underlying30 rfl (by kernel_rfl) (.tmp (.cell gb374 25 #[.int .i64 0, .int .i64 0] (0, 0) _ rfl (by (with_reducible repeat first | apply blk_drewN | apply blk_drew | apply blk_alloc); refine blk_put (cs := #[.int .i64 0, .int .i64 0]) ?_ 1 _ rfl; (with_reducible repeat first | apply blk_drewN | apply blk_drew | apply blk_alloc); refine blk_put (cs := #[.int .i64 0, .int .i64 0]) ?_ 0 _ rfl; (with_reducible repeat first | apply blk_drewN | apply blk_drew | apply blk_alloc); refine blk_far ?_ NB374_373.out _; (with_reducible repeat first | apply blk_drewN | apply blk_drew | apply blk_alloc); refine blk_far ?_ NB374_373.out _; (with_reducible repeat first | apply blk_drewN | apply blk_drew | apply blk_alloc); refine blk_far ?_ NB374_373.out _; (with_reducible repeat first | apply blk_drewN | apply blk_drew | apply blk_alloc); refine blk_far ?_ NB374_373.out _; (with_reducible repeat first | apply blk_drewN | apply blk_drew | apply blk_alloc); refine blk_far ?_ NB374_373.out _; (with_reducible repeat first | apply blk_drewN | apply blk_drew | apply blk_alloc); exact BK374.out) Tryd.underlying25 rfl (by kernel_rfl) .nil)))) rfl ?_
  exact ⟨x62_9, x62_1⟩
 ·rw [if_neg c3] at H
  have c3b0 := beq_eq_false_iff_ne.mpr c3
  have c3b1 := bne_iff_ne.mpr c3
  by_cases c9 : 0 ≤ a1
  ·rw [if_pos c9] at H
   have c9b0 := decide_eq_true c9
   clear c9
   by_cases c10 : a1 < (a0.size : Int)
   ·rw [if_pos c10] at H
    have c10b0 := decide_eq_true c10
    clear c10
    obtain ⟨t375, A120, H⟩ := Option.bind_eq_some_iff.mp H
    have A12 := Aside0.mk A120
    clear A120
    by_cases c13 : t375 = true
    ·subst c13
     rw [if_pos rfl] at H
     replace H := Option.bind_eq_some_iff.mp H
     obtain ⟨⟨t376, t377, t378, t379, t380, t381, t382, t383⟩, A140, H⟩ := H
     replace H : (some (t376, t377, t378, t379, t380, t381, t382, t383)) = some (r1, r2, r3, r4, r5, r6, r7, r8) := H
     have A14 := Aside0.mk A140
     clear A140
     simp only [Option.some.injEq, Prod.mk.injEq] at H
     obtain ⟨rfl, rfl, rfl, rfl, rfl, rfl, rfl, rfl⟩ := H
     go_enter Tryd.func16, Tryd.ntmps16
     go_wp2_with (first | ((with_reducible refine gate_dst (N := 4) rfl ?_); refine box_event ?hg (N := 4) ?hd (cs := #[.int .i64 0, .int .i64 0, .string (⟨#[]⟩ : ByteArray), .int .i64 0, .int .u64 0]) (t := 30) ?hr ?_; (case hd => rfl); (case hg => rfl); (case hr => first | (go_simp; done) | (go_simp; rfl)); intro gb373 hg w15 hbox hb; have n0_ := Aside0.mk (below_step x62_4 hb); have n1_ := Aside0.mk (hbox); have n2_ := Aside0.mk ((by rw [hg]; exact (below_size x62_4) : w.heap.size ≤ gb373)); have n3_ := Aside0.mk ((by rw [hg]; exact (below_size x62_4) : w.heap.size ≤ gb373)); clear HB; have HB := n0_; have BK373 := n1_; have GW373 := n2_; have GE373 := n3_; clear n0_ n1_ n2_ n3_; clear hb hbox hg) | ((with_reducible refine gate_dst (N := 6) rfl ?_); refine box_event ?hg (N := 6) ?hd (cs := #[.int .i64 0, .int .i64 0]) (t := 25) ?hr ?_; (case hd => rfl); (case hg => rfl); (case hr => first | (go_simp; done) | (go_simp; rfl)); intro gb374 hg w16 hbox hb; have n0_ := Aside0.mk (blk_below (g := gb373) (o := .cells #[.int .i64 0, .int .i64 0, .string (⟨#[]⟩ : ByteArray), .int .i64 0, .int .u64 0] 30 (0, 0)) x62_7 hb); have n1_ := Aside0.mk (below_step x62_2 hb); have n2_ := Aside0.mk (hbox); have n3_ := Aside0.mk ((by rw [hg]; exact (below_size x62_2) : w.heap.size ≤ gb374)); have n4_ := Aside0.mk ((by rw [hg]; exact (below_size x62_2) : w.heap.size ≤ gb374)); have n5_ := Aside0.mk ((by rw [hg]; exact Nat.ne_of_lt (blk_lt (g := gb373) (o := .cells #[.int .i64 0, .int .i64 0, .string (⟨#[]⟩ : ByteArray), .int .i64 0, .int .u64 0] 30 (0, 0)) x62_7) : gb373 ≠ gb374)); have n6_ := Aside0.mk ((by rw [hg]; exact Nat.ne_of_gt (blk_lt (g := gb373) (o := .cells #[.int .i64 0, .int .i64 0, .string (⟨#[]⟩ : ByteArray), .int .i64 0, .int .u64 0] 30 (0, 0)) x62_7) : gb374 ≠ gb373)); clear BK373; clear HB; have BK373 := n0_; have HB := n1_; have BK374 := n2_; have GW374 := n3_; have GE374 := n4_; have NB373_374 := n5_; have NB374_373 := n6_; clear n0_ n1_ n2_ n3_ n4_ n5_ n6_; clear hb hbox hg; have p11 : 0 ≤ (a1 : Int) := of_decide_eq_true x62_11; have q11 : a1 < (a0.size : Int) := of_decide_eq_true x62_11; have hx11 := bt_at a0 a1; replace p11 := eq_true p11; replace q11 := eq_true q11) | ((with_reducible refine gate_callee (f := 28) rfl ?_); refine goesL_ (some 21) rfl rfl Tryd.func28 (by kernel_rfl) rfl #[.int .u8 (bt a0 a1)] rfl x62_3 ?_; (with_reducible refine (casketref11_starts.calls (bt a0 a1) true _ A12.out).mono ?_); rintro e w' ⟨rfl, ⟨nd, rfl⟩⟩; refine ⟨_, rfl, ?_⟩; (try (rw [drewN_self w16]; generalize hq_ : World.drewN w16 _ = w16; have n0_ : Aside0 (w16.heap[gb373]? = some (.cells #[.int .i64 0, .int .i64 0, .string (⟨#[]⟩ : ByteArray), .int .i64 0, .int .u64 0] 30 (0, 0))) := ⟨x62_5⟩; have n1_ : Aside0 (w16.heap[gb374]? = some (.cells #[.int .i64 0, .int .i64 0] 25 (0, 0))) := ⟨x62_6⟩; have n2_ : Aside0 (Below w.heap.size w w16) := ⟨x62_0⟩; clear BK373 BK374 HB hq_; have BK373 := n0_; have BK374 := n1_; have HB := n2_; clear n0_ n1_ n2_))) | ((with_reducible refine gate_callee (f := 29) rfl ?_); refine goesL_ (some 24) rfl rfl Tryd.func29 (by kernel_rfl) rfl #[.string a0, .int .i64 a1] rfl x62_3 ?_; (with_reducible refine (casketref11_name.calls k a0 a1 t376 t377 t378 t379 t380 t381 t382 t383 _ A14.out).mono ?_); rintro e w17 ⟨rfl, hb⟩; refine ⟨_, rfl, ?_⟩; have n0_ := Aside0.mk (blk_below (g := gb373) (o := .cells #[.int .i64 0, .int .i64 0, .string (⟨#[]⟩ : ByteArray), .int .i64 0, .int .u64 0] 30 (0, 0)) x62_7 hb); have n1_ := Aside0.mk (blk_below (g := gb374) (o := .cells #[.int .i64 0, .int .i64 0] 25 (0, 0)) x62_8 hb); have n2_ := Aside0.mk (below_step x62_1 hb); clear BK373; clear BK374; clear HB; have BK373 := n0_; have BK374 := n1_; have HB := n2_; clear n0_ n1_ n2_; have hnb18 := NB373_374.out; have hnc18 := NB374_373.out; have hcz19_0 : w17.cell? ⟨gb373, 0, none⟩ = some (.int .i64 0) := (blk_cell BK373.out 0).trans rfl; have hcz19_1 : w17.cell? ⟨gb373, 1, none⟩ = some (.int .i64 0) := (blk_cell BK373.out 1).trans rfl; have hcz19_2 : w17.cell? ⟨gb373, 2, none⟩ = some (.string (⟨#[]⟩ : ByteArray)) := (blk_cell BK373.out 2).trans rfl; have hcz19_3 : w17.cell? ⟨gb373, 3, none⟩ = some (.int .i64 0) := (blk_cell BK373.out 3).trans rfl; have hcz19_4 : w17.cell? ⟨gb373, 4, none⟩ = some (.int .u64 0) := (blk_cell BK373.out 4).trans rfl; have hfz19_0 := blk_frozen BK373.out 0; have hfz19_1 := blk_frozen BK373.out 1; have hfz19_2 := blk_frozen BK373.out 2; have hfz19_3 := blk_frozen BK373.out 3; have hfz19_4 := blk_frozen BK373.out 4; have hcz20_0 : w17.cell? ⟨gb374, 0, none⟩ = some (.int .i64 0) := (blk_cell BK374.out 0).trans rfl; have hcz20_1 : w17.cell? ⟨gb374, 1, none⟩ = some (.int .i64 0) := (blk_cell BK374.out 1).trans rfl; have hfz20_0 := blk_frozen BK374.out 0; have hfz20_1 := blk_frozen BK374.out 1))
     refine bodyPost_ret (results_list (rs := [.cell 4 30, .tmp 5, .cell 6 25]) rfl (by simp) (.cell gb373 30 #[.int .i64 t376, .int .i64 t377, .string t378, .int .i64 t379, .int .u64 t380] (0, 0) _ rfl (by (with_reducible repeat first | apply blk_drewN | apply blk_drew | apply blk_alloc); refine blk_far ?_ NB373_374.out _; (with_reducible repeat first | apply blk_drewN | apply blk_drew | apply blk_alloc); refine blk_far ?_ NB373_374.out _; (with_reducible repeat first | apply blk_drewN | apply blk_drew | apply blk_alloc); refine blk_put (cs := #[.int .i64 t376, .int .i64 t377, .string t378, .int .i64 t379, .int .u64 0]) ?_ 4 _ rfl; (with_reducible repeat first | apply blk_drewN | apply blk_drew | apply blk_alloc); refine blk_put (cs := #[.int .i64 t376, .int .i64 t377, .string t378, .int .i64 0, .int .u64 0]) ?_ 3 _ rfl; (with_reducible repeat first | apply blk_drewN | apply blk_drew | apply blk_alloc); refine blk_put (cs := #[.int .i64 t376, .int .i64 t377, .string (⟨#[]⟩ : ByteArray), .int .i64 0, .int .u64 0]) ?_ 2 _ rfl; (with_reducible repeat first | apply blk_drewN | apply blk_drew | apply blk_alloc); refine blk_put (cs := #[.int .i64 t376, .int .i64 0, .string (⟨#[]⟩ : ByteArray), .int .i64 0, .int .u64 0]) ?_ 1 _ rfl; (with_reducible repeat first | apply blk_drewN | apply blk_drew | apply blk_alloc); refine blk_put (cs := #[.int .i64 0, .int .i64 0, .string (⟨#[]⟩ : ByteArray), .int .i64 0, .int .u64 0]) ?_ 0 _ rfl; (with_reducible repeat first | apply blk_drewN | apply blk_drew | apply blk_alloc); exact BK373.out) Tryd.underlying30 rfl (by kernel_rfl) (.tmp (.cell gb374 25 #[.int .i64 t382, .int .i64 t383] (0, 0) _ rfl (by (with_reducible repeat first | apply blk_drewN | apply blk_drew | apply blk_alloc); refine blk_put (cs := #[.int .i64 t382, .int .i64 0]) ?_ 1 _ rfl; (with_reducible repeat first | apply blk_drewN | apply blk_drew | apply blk_alloc); refine blk_put (cs := #[.int .i64 0, .int .i64 0]) ?_ 0 _ rfl; (with_reducible repeat first | apply blk_drewN | apply blk_drew | apply blk_alloc); refine blk_far ?_ NB374_373.out _; (with_reducible repeat first | apply blk_drewN | apply blk_drew | apply blk_alloc); refine blk_far ?_ NB374_373.out _; (with_reducible repeat first | apply blk_drewN | apply blk_drew | apply blk_alloc); refine blk_far ?_ NB374_373.out _; (with_reducible repeat first | apply blk_drewN | apply blk_drew | apply blk_alloc); refine blk_far ?_ NB374_373.out _; (with_reducible repeat first | apply blk_drewN | apply blk_drew | apply blk_alloc); refine blk_far ?_ NB374_373.out _; (with_reducible repeat first | apply blk_drewN | apply blk_drew | apply blk_alloc); exact BK374.out) Tryd.underlying25 rfl (by kernel_rfl) .nil)))) rfl ?_
     exact ⟨x62_9, x62_1⟩
    ·replace c13 := Bool.eq_false_iff.mpr c13
     subst c13
     rw [if_neg (show ¬ (false = true) by decide)] at H
     obtain ⟨t384, A210, H⟩ := Option.bind_eq_some_iff.mp H
     have A21 := Aside0.mk A210
     clear A210
     by_cases c22 : t384 = true
     ·subst c22
      rw [if_pos rfl] at H
      replace H := Option.bind_eq_some_iff.mp H
      obtain ⟨⟨t385, t386, t387, t388, t389, t390, t391, t392⟩, A230, H⟩ := H
      replace H : (some (t385, t386, t387, t388, t389, t390, t391, t392)) = some (r1, r2, r3, r4, r5, r6, r7, r8) := H
      have A23 := Aside0.mk A230
      clear A230
      simp only [Option.some.injEq, Prod.mk.injEq] at H
      obtain ⟨rfl, rfl, rfl, rfl, rfl, rfl, rfl, rfl⟩ := H
      go_enter Tryd.func16, Tryd.ntmps16
      go_wp2_with (first | ((with_reducible refine gate_dst (N := 4) rfl ?_); refine box_event ?hg (N := 4) ?hd (cs := #[.int .i64 0, .int .i64 0, .string (⟨#[]⟩ : ByteArray), .int .i64 0, .int .u64 0]) (t := 30) ?hr ?_; (case hd => rfl); (case hg => rfl); (case hr => first | (go_simp; done) | (go_simp; rfl)); intro gb373 hg w24 hbox hb; have n0_ := Aside0.mk (below_step x62_4 hb); have n1_ := Aside0.mk (hbox); have n2_ := Aside0.mk ((by rw [hg]; exact (below_size x62_4) : w.heap.size ≤ gb373)); have n3_ := Aside0.mk ((by rw [hg]; exact (below_size x62_4) : w.heap.size ≤ gb373)); clear HB; have HB := n0_; have BK373 := n1_; have GW373 := n2_; have GE373 := n3_; clear n0_ n1_ n2_ n3_; clear hb hbox hg) | ((with_reducible refine gate_dst (N := 6) rfl ?_); refine box_event ?hg (N := 6) ?hd (cs := #[.int .i64 0, .int .i64 0]) (t := 25) ?hr ?_; (case hd => rfl); (case hg => rfl); (case hr => first | (go_simp; done) | (go_simp; rfl)); intro gb374 hg w25 hbox hb; have n0_ := Aside0.mk (blk_below (g := gb373) (o := .cells #[.int .i64 0, .int .i64 0, .string (⟨#[]⟩ : ByteArray), .int .i64 0, .int .u64 0] 30 (0, 0)) x62_7 hb); have n1_ := Aside0.mk (below_step x62_2 hb); have n2_ := Aside0.mk (hbox); have n3_ := Aside0.mk ((by rw [hg]; exact (below_size x62_2) : w.heap.size ≤ gb374)); have n4_ := Aside0.mk ((by rw [hg]; exact (below_size x62_2) : w.heap.size ≤ gb374)); have n5_ := Aside0.mk ((by rw [hg]; exact Nat.ne_of_lt (blk_lt (g := gb373) (o := .cells #[.int .i64 0, .int .i64 0, .string (⟨#[]⟩ : ByteArray), .int .i64 0, .int .u64 0] 30 (0, 0)) x62_7) : gb373 ≠ gb374)); have n6_ := Aside0.mk ((by rw [hg]; exact Nat.ne_of_gt (blk_lt (g := gb373) (o := .cells #[.int .i64 0, .int .i64 0, .string (⟨#[]⟩ : ByteArray), .int .i64 0, .int .u64 0] 30 (0, 0)) x62_7) : gb374 ≠ gb373)); clear BK373; clear HB; have BK373 := n0_; have HB := n1_; have BK374 := n2_; have GW374 := n3_; have GE374 := n4_; have NB373_374 := n5_; have NB374_373 := n6_; clear n0_ n1_ n2_ n3_ n4_ n5_ n6_; clear hb hbox hg; have p11 : 0 ≤ (a1 : Int) := of_decide_eq_true x62_11; have q11 : a1 < (a0.size : Int) := of_decide_eq_true x62_11; have hx11 := bt_at a0 a1; replace p11 := eq_true p11; replace q11 := eq_true q11) | ((with_reducible refine gate_callee (f := 28) rfl ?_); refine goesL_ (some 21) rfl rfl Tryd.func28 (by kernel_rfl) rfl #[.int .u8 (bt a0 a1)] rfl x62_3 ?_; (with_reducible refine (casketref11_starts.calls (bt a0 a1) false _ A12.out).mono ?_); rintro e w' ⟨rfl, ⟨nd, rfl⟩⟩; refine ⟨_, rfl, ?_⟩; (try (rw [drewN_self w25]; generalize hq_ : World.drewN w25 _ = w25; have n0_ : Aside0 (w25.heap[gb373]? = some (.cells #[.int .i64 0, .int .i64 0, .string (⟨#[]⟩ : ByteArray), .int .i64 0, .int .u64 0] 30 (0, 0))) := ⟨x62_5⟩; have n1_ : Aside0 (w25.heap[gb374]? = some (.cells #[.int .i64 0, .int .i64 0] 25 (0, 0))) := ⟨x62_6⟩; have n2_ : Aside0 (Below w.heap.size w w25) := ⟨x62_0⟩; clear BK373 BK374 HB hq_; have BK373 := n0_; have BK374 := n1_; have HB := n2_; clear n0_ n1_ n2_))) | ((with_reducible refine gate_callee (f := 30) rfl ?_); refine goesL_ (some 29) rfl rfl Tryd.func30 (by kernel_rfl) rfl #[.int .u8 (bt a0 a1)] rfl x62_3 ?_; (with_reducible refine (casketref11_digit.calls (bt a0 a1) true _ A21.out).mono ?_); rintro e w' ⟨rfl, ⟨nd, rfl⟩⟩; refine ⟨_, rfl, ?_⟩; (try (rw [drewN_self w25]; generalize hq_ : World.drewN w25 _ = w25; have n0_ : Aside0 (w25.heap[gb373]? = some (.cells #[.int .i64 0, .int .i64 0, .string (⟨#[]⟩ : ByteArray), .int .i64 0, .int .u64 0] 30 (0, 0))) := ⟨x62_5⟩; have n1_ : Aside0 (w25.heap[gb374]? = some (.cells #[.int .i64 0, .int .i64 0] 25 (0, 0))) := ⟨x62_6⟩; have n2_ : Aside0 (Below w.heap.size w w25) := ⟨x62_0⟩; clear BK373 BK374 HB hq_; have BK373 := n0_; have BK374 := n1_; have HB := n2_; clear n0_ n1_ n2_))) | ((with_reducible refine gate_callee (f := 31) rfl ?_); refine goesL_ (some 32) rfl rfl Tryd.func31 (by kernel_rfl) rfl #[.string a0, .int .i64 a1] rfl x62_3 ?_; (with_reducible refine (casketref11_number.calls k a0 a1 t385 t386 t387 t388 t389 t390 t391 t392 _ A23.out).mono ?_); rintro e w26 ⟨rfl, hb⟩; refine ⟨_, rfl, ?_⟩; have n0_ := Aside0.mk (blk_below (g := gb373) (o := .cells #[.int .i64 0, .int .i64 0, .string (⟨#[]⟩ : ByteArray), .int .i64 0, .int .u64 0] 30 (0, 0)) x62_7 hb); have n1_ := Aside0.mk (blk_below (g := gb374) (o := .cells #[.int .i64 0, .int .i64 0] 25 (0, 0)) x62_8 hb); have n2_ := Aside0.mk (below_step x62_1 hb); clear BK373; clear BK374; clear HB; have BK373 := n0_; have BK374 := n1_; have HB := n2_; clear n0_ n1_ n2_; have hnb27 := NB373_374.out; have hnc27 := NB374_373.out; have hcz28_0 : w26.cell? ⟨gb373, 0, none⟩ = some (.int .i64 0) := (blk_cell BK373.out 0).trans rfl; have hcz28_1 : w26.cell? ⟨gb373, 1, none⟩ = some (.int .i64 0) := (blk_cell BK373.out 1).trans rfl; have hcz28_2 : w26.cell? ⟨gb373, 2, none⟩ = some (.string (⟨#[]⟩ : ByteArray)) := (blk_cell BK373.out 2).trans rfl; have hcz28_3 : w26.cell? ⟨gb373, 3, none⟩ = some (.int .i64 0) := (blk_cell BK373.out 3).trans rfl; have hcz28_4 : w26.cell? ⟨gb373, 4, none⟩ = some (.int .u64 0) := (blk_cell BK373.out 4).trans rfl; have hfz28_0 := blk_frozen BK373.out 0; have hfz28_1 := blk_frozen BK373.out 1; have hfz28_2 := blk_frozen BK373.out 2; have hfz28_3 := blk_frozen BK373.out 3; have hfz28_4 := blk_frozen BK373.out 4; have hcz29_0 : w26.cell? ⟨gb374, 0, none⟩ = some (.int .i64 0) := (blk_cell BK374.out 0).trans rfl; have hcz29_1 : w26.cell? ⟨gb374, 1, none⟩ = some (.int .i64 0) := (blk_cell BK374.out 1).trans rfl; have hfz29_0 := blk_frozen BK374.out 0; have hfz29_1 := blk_frozen BK374.out 1))
      refine bodyPost_ret (results_list (rs := [.cell 4 30, .tmp 5, .cell 6 25]) rfl (by simp) (.cell gb373 30 #[.int .i64 t385, .int .i64 t386, .string t387, .int .i64 t388, .int .u64 t389] (0, 0) _ rfl (by (with_reducible repeat first | apply blk_drewN | apply blk_drew | apply blk_alloc); refine blk_far ?_ NB373_374.out _; (with_reducible repeat first | apply blk_drewN | apply blk_drew | apply blk_alloc); refine blk_far ?_ NB373_374.out _; (with_reducible repeat first | apply blk_drewN | apply blk_drew | apply blk_alloc); refine blk_put (cs := #[.int .i64 t385, .int .i64 t386, .string t387, .int .i64 t388, .int .u64 0]) ?_ 4 _ rfl; (with_reducible repeat first | apply blk_drewN | apply blk_drew | apply blk_alloc); refine blk_put (cs := #[.int .i64 t385, .int .i64 t386, .string t387, .int .i64 0, .int .u64 0]) ?_ 3 _ rfl; (with_reducible repeat first | apply blk_drewN | apply blk_drew | apply blk_alloc); refine blk_put (cs := #[.int .i64 t385, .int .i64 t386, .string (⟨#[]⟩ : ByteArray), .int .i64 0, .int .u64 0]) ?_ 2 _ rfl; (with_reducible repeat first | apply blk_drewN | apply blk_drew | apply blk_alloc); refine blk_put (cs := #[.int .i64 t385, .int .i64 0, .string (⟨#[]⟩ : ByteArray), .int .i64 0, .int .u64 0]) ?_ 1 _ rfl; (with_reducible repeat first | apply blk_drewN | apply blk_drew | apply blk_alloc); refine blk_put (cs := #[.int .i64 0, .int .i64 0, .string (⟨#[]⟩ : ByteArray), .int .i64 0, .int .u64 0]) ?_ 0 _ rfl; (with_reducible repeat first | apply blk_drewN | apply blk_drew | apply blk_alloc); exact BK373.out) Tryd.underlying30 rfl (by kernel_rfl) (.tmp (.cell gb374 25 #[.int .i64 t391, .int .i64 t392] (0, 0) _ rfl (by (with_reducible repeat first | apply blk_drewN | apply blk_drew | apply blk_alloc); refine blk_put (cs := #[.int .i64 t391, .int .i64 0]) ?_ 1 _ rfl; (with_reducible repeat first | apply blk_drewN | apply blk_drew | apply blk_alloc); refine blk_put (cs := #[.int .i64 0, .int .i64 0]) ?_ 0 _ rfl; (with_reducible repeat first | apply blk_drewN | apply blk_drew | apply blk_alloc); refine blk_far ?_ NB374_373.out _; (with_reducible repeat first | apply blk_drewN | apply blk_drew | apply blk_alloc); refine blk_far ?_ NB374_373.out _; (with_reducible repeat first | apply blk_drewN | apply blk_drew | apply blk_alloc); refine blk_far ?_ NB374_373.out _; (with_reducible repeat first | apply blk_drewN | apply blk_drew | apply blk_alloc); refine blk_far ?_ NB374_373.out _; (with_reducible repeat first | apply blk_drewN | apply blk_drew | apply blk_alloc); refine blk_far ?_ NB374_373.out _; (with_reducible repeat first | apply blk_drewN | apply blk_drew | apply blk_alloc); exact BK374.out) Tryd.underlying25 rfl (by kernel_rfl) .nil)))) rfl ?_
      exact ⟨x62_9, x62_1⟩
     ·replace c22 := Bool.eq_false_iff.mpr c22
      subst c22
      rw [if_neg (show ¬ (false = true) by decide)] at H
      by_cases c30 : (bt a0 a1) = 34
      ·rw [if_pos c30] at H
       have c30b0 := beq_iff_eq.mpr c30
       have c30b1 := bne_eq_false_iff_eq.mpr c30
       clear c30
       replace H := Option.bind_eq_some_iff.mp H
       obtain ⟨⟨t393, t394, t395, t396, t397, t398, t399, t400⟩, A310, H⟩ := H
       replace H : (some (t393, t394, t395, t396, t397, t398, t399, t400)) = some (r1, r2, r3, r4, r5, r6, r7, r8) := H
       have A31 := Aside0.mk A310
       clear A310
       simp only [Option.some.injEq, Prod.mk.injEq] at H
       obtain ⟨rfl, rfl, rfl, rfl, rfl, rfl, rfl, rfl⟩ := H
       go_enter Tryd.func16, Tryd.ntmps16
       go_wp2_with (first | ((with_reducible refine gate_dst (N := 4) rfl ?_); refine box_event ?hg (N := 4) ?hd (cs := #[.int .i64 0, .int .i64 0, .string (⟨#[]⟩ : ByteArray), .int .i64 0, .int .u64 0]) (t := 30) ?hr ?_; (case hd => rfl); (case hg => rfl); (case hr => first | (go_simp; done) | (go_simp; rfl)); intro gb373 hg w32 hbox hb; have n0_ := Aside0.mk (below_step x62_4 hb); have n1_ := Aside0.mk (hbox); have n2_ := Aside0.mk ((by rw [hg]; exact (below_size x62_4) : w.heap.size ≤ gb373)); have n3_ := Aside0.mk ((by rw [hg]; exact (below_size x62_4) : w.heap.size ≤ gb373)); clear HB; have HB := n0_; have BK373 := n1_; have GW373 := n2_; have GE373 := n3_; clear n0_ n1_ n2_ n3_; clear hb hbox hg) | ((with_reducible refine gate_dst (N := 6) rfl ?_); refine box_event ?hg (N := 6) ?hd (cs := #[.int .i64 0, .int .i64 0]) (t := 25) ?hr ?_; (case hd => rfl); (case hg => rfl); (case hr => first | (go_simp; done) | (go_simp; rfl)); intro gb374 hg w33 hbox hb; have n0_ := Aside0.mk (blk_below (g := gb373) (o := .cells #[.int .i64 0, .int .i64 0, .string (⟨#[]⟩ : ByteArray), .int .i64 0, .int .u64 0] 30 (0, 0)) x62_7 hb); have n1_ := Aside0.mk (below_step x62_2 hb); have n2_ := Aside0.mk (hbox); have n3_ := Aside0.mk ((by rw [hg]; exact (below_size x62_2) : w.heap.size ≤ gb374)); have n4_ := Aside0.mk ((by rw [hg]; exact (below_size x62_2) : w.heap.size ≤ gb374)); have n5_ := Aside0.mk ((by rw [hg]; exact Nat.ne_of_lt (blk_lt (g := gb373) (o := .cells #[.int .i64 0, .int .i64 0, .string (⟨#[]⟩ : ByteArray), .int .i64 0, .int .u64 0] 30 (0, 0)) x62_7) : gb373 ≠ gb374)); have n6_ := Aside0.mk ((by rw [hg]; exact Nat.ne_of_gt (blk_lt (g := gb373) (o := .cells #[.int .i64 0, .int .i64 0, .string (⟨#[]⟩ : ByteArray), .int .i64 0, .int .u64 0] 30 (0, 0)) x62_7) : gb374 ≠ gb373)); clear BK373; clear HB; have BK373 := n0_; have HB := n1_; have BK374 := n2_; have GW374 := n3_; have GE374 := n4_; have NB373_374 := n5_; have NB374_373 := n6_; clear n0_ n1_ n2_ n3_ n4_ n5_ n6_; clear hb hbox hg; have p11 : 0 ≤ (a1 : Int) := of_decide_eq_true x62_11; have q11 : a1 < (a0.size : Int) := of_decide_eq_true x62_11; have hx11 := bt_at a0 a1; replace p11 := eq_true p11; replace q11 := eq_true q11) | ((with_reducible refine gate_callee (f := 28) rfl ?_); refine goesL_ (some 21) rfl rfl Tryd.func28 (by kernel_rfl) rfl #[.int .u8 (bt a0 a1)] rfl x62_3 ?_; (with_reducible refine (casketref11_starts.calls (bt a0 a1) false _ A12.out).mono ?_); rintro e w' ⟨rfl, ⟨nd, rfl⟩⟩; refine ⟨_, rfl, ?_⟩; (try (rw [drewN_self w33]; generalize hq_ : World.drewN w33 _ = w33; have n0_ : Aside0 (w33.heap[gb373]? = some (.cells #[.int .i64 0, .int .i64 0, .string (⟨#[]⟩ : ByteArray), .int .i64 0, .int .u64 0] 30 (0, 0))) := ⟨x62_5⟩; have n1_ : Aside0 (w33.heap[gb374]? = some (.cells #[.int .i64 0, .int .i64 0] 25 (0, 0))) := ⟨x62_6⟩; have n2_ : Aside0 (Below w.heap.size w w33) := ⟨x62_0⟩; clear BK373 BK374 HB hq_; have BK373 := n0_; have BK374 := n1_; have HB := n2_; clear n0_ n1_ n2_))) | ((with_reducible refine gate_callee (f := 30) rfl ?_); refine goesL_ (some 29) rfl rfl Tryd.func30 (by kernel_rfl) rfl #[.int .u8 (bt a0 a1)] rfl x62_3 ?_; (with_reducible refine (casketref11_digit.calls (bt a0 a1) false _ A21.out).mono ?_); rintro e w' ⟨rfl, ⟨nd, rfl⟩⟩; refine ⟨_, rfl, ?_⟩; (try (rw [drewN_self w33]; generalize hq_ : World.drewN w33 _ = w33; have n0_ : Aside0 (w33.heap[gb373]? = some (.cells #[.int .i64 0, .int .i64 0, .string (⟨#[]⟩ : ByteArray), .int .i64 0, .int .u64 0] 30 (0, 0))) := ⟨x62_5⟩; have n1_ : Aside0 (w33.heap[gb374]? = some (.cells #[.int .i64 0, .int .i64 0] 25 (0, 0))) := ⟨x62_6⟩; have n2_ : Aside0 (Below w.heap.size w w33) := ⟨x62_0⟩; clear BK373 BK374 HB hq_; have BK373 := n0_; have BK374 := n1_; have HB := n2_; clear n0_ n1_ n2_))) | ((with_reducible refine gate_callee (f := 32) rfl ?_); refine goesL_ (some 40) rfl rfl Tryd.func32 (by kernel_rfl) rfl #[.string a0, .int .i64 a1] rfl x62_3 ?_; (with_reducible refine (casketref11_text.calls k a0 a1 t393 t394 t395 t396 t397 t398 t399 t400 _ A31.out).mono ?_); rintro e w34 ⟨rfl, hb⟩; refine ⟨_, rfl, ?_⟩; have n0_ := Aside0.mk (blk_below (g := gb373) (o := .cells #[.int .i64 0, .int .i64 0, .string (⟨#[]⟩ : ByteArray), .int .i64 0, .int .u64 0] 30 (0, 0)) x62_7 hb); have n1_ := Aside0.mk (blk_below (g := gb374) (o := .cells #[.int .i64 0, .int .i64 0] 25 (0, 0)) x62_8 hb); have n2_ := Aside0.mk (below_step x62_1 hb); clear BK373; clear BK374; clear HB; have BK373 := n0_; have BK374 := n1_; have HB := n2_; clear n0_ n1_ n2_; have hnb35 := NB373_374.out; have hnc35 := NB374_373.out; have hcz36_0 : w34.cell? ⟨gb373, 0, none⟩ = some (.int .i64 0) := (blk_cell BK373.out 0).trans rfl; have hcz36_1 : w34.cell? ⟨gb373, 1, none⟩ = some (.int .i64 0) := (blk_cell BK373.out 1).trans rfl; have hcz36_2 : w34.cell? ⟨gb373, 2, none⟩ = some (.string (⟨#[]⟩ : ByteArray)) := (blk_cell BK373.out 2).trans rfl; have hcz36_3 : w34.cell? ⟨gb373, 3, none⟩ = some (.int .i64 0) := (blk_cell BK373.out 3).trans rfl; have hcz36_4 : w34.cell? ⟨gb373, 4, none⟩ = some (.int .u64 0) := (blk_cell BK373.out 4).trans rfl; have hfz36_0 := blk_frozen BK373.out 0; have hfz36_1 := blk_frozen BK373.out 1; have hfz36_2 := blk_frozen BK373.out 2; have hfz36_3 := blk_frozen BK373.out 3; have hfz36_4 := blk_frozen BK373.out 4; have hcz37_0 : w34.cell? ⟨gb374, 0, none⟩ = some (.int .i64 0) := (blk_cell BK374.out 0).trans rfl; have hcz37_1 : w34.cell? ⟨gb374, 1, none⟩ = some (.int .i64 0) := (blk_cell BK374.out 1).trans rfl; have hfz37_0 := blk_frozen BK374.out 0; have hfz37_1 := blk_frozen BK374.out 1))
       refine bodyPost_ret (results_list (rs := [.cell 4 30, .tmp 5, .cell 6 25]) rfl (by simp) (.cell gb373 30 #[.int .i64 t393, .int .i64 t394, .string t395, .int .i64 t396, .int .u64 t397] (0, 0) _ rfl (by (with_reducible repeat first | apply blk_drewN | apply blk_drew | apply blk_alloc); refine blk_far ?_ NB373_374.out _; (with_reducible repeat first | apply blk_drewN | apply blk_drew | apply blk_alloc); refine blk_far ?_ NB373_374.out _; (with_reducible repeat first | apply blk_drewN | apply blk_drew | apply blk_alloc); refine blk_put (cs := #[.int .i64 t393, .int .i64 t394, .string t395, .int .i64 t396, .int .u64 0]) ?_ 4 _ rfl; (with_reducible repeat first | apply blk_drewN | apply blk_drew | apply blk_alloc); refine blk_put (cs := #[.int .i64 t393, .int .i64 t394, .string t395, .int .i64 0, .int .u64 0]) ?_ 3 _ rfl; (with_reducible repeat first | apply blk_drewN | apply blk_drew | apply blk_alloc); refine blk_put (cs := #[.int .i64 t393, .int .i64 t394, .string (⟨#[]⟩ : ByteArray), .int .i64 0, .int .u64 0]) ?_ 2 _ rfl; (with_reducible repeat first | apply blk_drewN | apply blk_drew | apply blk_alloc); refine blk_put (cs := #[.int .i64 t393, .int .i64 0, .string (⟨#[]⟩ : ByteArray), .int .i64 0, .int .u64 0]) ?_ 1 _ rfl; (with_reducible repeat first | apply blk_drewN | apply blk_drew | apply blk_alloc); refine blk_put (cs := #[.int .i64 0, .int .i64 0, .string (⟨#[]⟩ : ByteArray), .int .i64 0, .int .u64 0]) ?_ 0 _ rfl; (with_reducible repeat first | apply blk_drewN | apply blk_drew | apply blk_alloc); exact BK373.out) Tryd.underlying30 rfl (by kernel_rfl) (.tmp (.cell gb374 25 #[.int .i64 t399, .int .i64 t400] (0, 0) _ rfl (by (with_reducible repeat first | apply blk_drewN | apply blk_drew | apply blk_alloc); refine blk_put (cs := #[.int .i64 t399, .int .i64 0]) ?_ 1 _ rfl; (with_reducible repeat first | apply blk_drewN | apply blk_drew | apply blk_alloc); refine blk_put (cs := #[.int .i64 0, .int .i64 0]) ?_ 0 _ rfl; (with_reducible repeat first | apply blk_drewN | apply blk_drew | apply blk_alloc); refine blk_far ?_ NB374_373.out _; (with_reducible repeat first | apply blk_drewN | apply blk_drew | apply blk_alloc); refine blk_far ?_ NB374_373.out _; (with_reducible repeat first | apply blk_drewN | apply blk_drew | apply blk_alloc); refine blk_far ?_ NB374_373.out _; (with_reducible repeat first | apply blk_drewN | apply blk_drew | apply blk_alloc); refine blk_far ?_ NB374_373.out _; (with_reducible repeat first | apply blk_drewN | apply blk_drew | apply blk_alloc); refine blk_far ?_ NB374_373.out _; (with_reducible repeat first | apply blk_drewN | apply blk_drew | apply blk_alloc); exact BK374.out) Tryd.underlying25 rfl (by kernel_rfl) .nil)))) rfl ?_
       exact ⟨x62_9, x62_1⟩
      ·rw [if_neg c30] at H
       have c30b0 := beq_eq_false_iff_ne.mpr c30
       have c30b1 := bne_iff_ne.mpr c30
       have H' := Aside0.mk H
       clear H
       go_enter Tryd.func16, Tryd.ntmps16
       go_wp2_with (first | ((with_reducible refine gate_dst (N := 4) rfl ?_); refine box_event ?hg (N := 4) ?hd (cs := #[.int .i64 0, .int .i64 0, .string (⟨#[]⟩ : ByteArray), .int .i64 0, .int .u64 0]) (t := 30) ?hr ?_; (case hd => rfl); (case hg => rfl); (case hr => first | (go_simp; done) | (go_simp; rfl)); intro gb373 hg w38 hbox hb; have n0_ := Aside0.mk (below_step x62_4 hb); have n1_ := Aside0.mk (hbox); have n2_ := Aside0.mk ((by rw [hg]; exact (below_size x62_4) : w.heap.size ≤ gb373)); have n3_ := Aside0.mk ((by rw [hg]; exact (below_size x62_4) : w.heap.size ≤ gb373)); clear HB; have HB := n0_; have BK373 := n1_; have GW373 := n2_; have GE373 := n3_; clear n0_ n1_ n2_ n3_; clear hb hbox hg) | ((with_reducible refine gate_dst (N := 6) rfl ?_); refine box_event ?hg (N := 6) ?hd (cs := #[.int .i64 0, .int .i64 0]) (t := 25) ?hr ?_; (case hd => rfl); (case hg => rfl); (case hr => first | (go_simp; done) | (go_simp; rfl)); intro gb374 hg w39 hbox hb; have n0_ := Aside0.mk (blk_below (g := gb373) (o := .cells #[.int .i64 0, .int .i64 0, .string (⟨#[]⟩ : ByteArray), .int .i64 0, .int .u64 0] 30 (0, 0)) x62_7 hb); have n1_ := Aside0.mk (below_step x62_2 hb); have n2_ := Aside0.mk (hbox); have n3_ := Aside0.mk ((by rw [hg]; exact (below_size x62_2) : w.heap.size ≤ gb374)); have n4_ := Aside0.mk ((by rw [hg]; exact (below_size x62_2) : w.heap.size ≤ gb374)); have n5_ := Aside0.mk ((by rw [hg]; exact Nat.ne_of_lt (blk_lt (g := gb373) (o := .cells #[.int .i64 0, .int .i64 0, .string (⟨#[]⟩ : ByteArray), .int .i64 0, .int .u64 0] 30 (0, 0)) x62_7) : gb373 ≠ gb374)); have n6_ := Aside0.mk ((by rw [hg]; exact Nat.ne_of_gt (blk_lt (g := gb373) (o := .cells #[.int .i64 0, .int .i64 0, .string (⟨#[]⟩ : ByteArray), .int .i64 0, .int .u64 0] 30 (0, 0)) x62_7) : gb374 ≠ gb373)); clear BK373; clear HB; have BK373 := n0_; have HB := n1_; have BK374 := n2_; have GW374 := n3_; have GE374 := n4_; have NB373_374 := n5_; have NB374_373 := n6_; clear n0_ n1_ n2_ n3_ n4_ n5_ n6_; clear hb hbox hg; have p11 : 0 ≤ (a1 : Int) := of_decide_eq_true x62_11; have q11 : a1 < (a0.size : Int) := of_decide_eq_true x62_11; have hx11 := bt_at a0 a1; replace p11 := eq_true p11; replace q11 := eq_true q11) | ((with_reducible refine gate_callee (f := 28) rfl ?_); refine goesL_ (some 21) rfl rfl Tryd.func28 (by kernel_rfl) rfl #[.int .u8 (bt a0 a1)] rfl x62_3 ?_; (with_reducible refine (casketref11_starts.calls (bt a0 a1) false _ A12.out).mono ?_); rintro e w' ⟨rfl, ⟨nd, rfl⟩⟩; refine ⟨_, rfl, ?_⟩) | ((with_reducible refine gate_callee (f := 30) rfl ?_); refine goesL_ (some 29) rfl rfl Tryd.func30 (by kernel_rfl) rfl #[.int .u8 (bt a0 a1)] rfl x62_3 ?_; (with_reducible refine (casketref11_digit.calls (bt a0 a1) false _ A21.out).mono ?_); rintro e w' ⟨rfl, ⟨nd, rfl⟩⟩; refine ⟨_, rfl, ?_⟩))
       go_loopg [8] k (fun kq v8 w' => ∃ (x8_1 : Int) (x374000_1 : Int) (x374001_1 : Int) (x374002_1 : ByteArray) (x374003_1 : Int) (x374004_1 : Int) (x375000_1 : Int) (x375001_1 : Int), v8 = .int .i64 x8_1 ∧ Aside0 (casketref11_Next.l0 kq a0 a1 x8_1 = some (r1, r2, r3, r4, r5, r6, r7, r8)) ∧ Aside0 (kq ≤ k) ∧ Aside0 (w'.heap[gb373]? = some (.cells #[.int .i64 x374000_1, .int .i64 x374001_1, .string x374002_1, .int .i64 x374003_1, .int .u64 x374004_1] 30 (0, 0))) ∧ Aside0 (w'.heap[gb374]? = some (.cells #[.int .i64 x375000_1, .int .i64 x375001_1] 25 (0, 0))) ∧ Aside0 (Below w.heap.size w w'))
       case atStart => exact ⟨(2), (0), (0), ((⟨#[]⟩ : ByteArray)), (0), (0), (0), (0), x62_12, H', ⟨Nat.le_refl _⟩, ⟨x62_7⟩, ⟨x62_8⟩, ⟨x62_1⟩⟩
       case round =>
        clear H'
        obtain ⟨x8_1, x374000_1, x374001_1, x374002_1, x374003_1, x374004_1, x375000_1, x375001_1, rfl, HA, HK1, BK373, BK374, HB⟩ := hrel
        cases gk with
        | zero => exact absurd HA.out (by simp [casketref11_Next.l0])
        | succ k1 =>
         have H := HA.out
         clear HA
         simp only [casketref11_Next.l0] at H
         by_cases c40 : x8_1 ≥ 1
         ·rw [if_pos c40] at H
          have c40b0 : decide (1 ≤ x8_1) = true := decide_eq_true c40
          clear c40
          by_cases c41 : (wrap64 (a1 + x8_1)) ≤ (a0.size : Int)
          ·rw [if_pos c41] at H
           have c41b0 := decide_eq_true c41
           clear c41
           by_cases c42 : 0 ≤ a1
           ·rw [if_pos c42] at H
            have c42b0 := eq_true c42
            have c42b1 := decide_eq_true c42
            clear c42
            by_cases c43 : a1 ≤ (wrap64 (a1 + x8_1))
            ·rw [if_pos c43] at H
             have c43b0 := eq_true c43
             have c43b1 := decide_eq_true c43
             have c44b0 := eq_true (of_decide_eq_true x62_11 : (wrap64 (a1 + x8_1)) ≤ (a0.size : Int))
             obtain ⟨t401, A450, H⟩ := Option.bind_eq_some_iff.mp H
             have A45 := Aside0.mk A450
             clear A450
             by_cases c46 : t401 = true
             ·subst c46
              rw [if_pos rfl] at H
              have c47b0 := eq_true (of_decide_eq_true x62_11 : 0 ≤ a1)
              have c48b0 := eq_true (of_decide_eq_true x62_11 : a1 ≤ (wrap64 (a1 + x8_1)))
              have c49b0 := eq_true (of_decide_eq_true x62_11 : (wrap64 (a1 + x8_1)) ≤ (a0.size : Int))
              simp only [Option.some.injEq, Prod.mk.injEq] at H
              obtain ⟨rfl, rfl, rfl, rfl, rfl, rfl, rfl, rfl⟩ := H
              go_wp2_with (first | (go_at_call 33; (with_reducible refine (casketref11_mark.calls (a0.extract (a1 : Int).toNat ((wrap64 (a1 + x8_1)) : Int).toNat) true _ A45.out).mono ?_); rintro e w' ⟨rfl, ⟨nd, rfl⟩⟩; (try (rw [drewN_self wr]; generalize hq_ : World.drewN wr _ = wr; have n0_ : Aside0 (wr.heap[gb373]? = some (.cells #[.int .i64 x374000_1, .int .i64 x374001_1, .string x374002_1, .int .i64 x374003_1, .int .u64 x374004_1] 30 (0, 0))) := ⟨x62_5⟩; have n1_ : Aside0 (wr.heap[gb374]? = some (.cells #[.int .i64 x375000_1, .int .i64 x375001_1] 25 (0, 0))) := ⟨x62_6⟩; have n2_ : Aside0 (Below w.heap.size w wr) := ⟨x62_0⟩; clear BK373 BK374 HB hq_; have BK373 := n0_; have BK374 := n1_; have HB := n2_; clear n0_ n1_ n2_)); have hnb50 := NB373_374.out; have hnc50 := NB374_373.out; have hcz51_0 : wr.cell? ⟨gb373, 0, none⟩ = some (.int .i64 x374000_1) := (blk_cell BK373.out 0).trans rfl; have hcz51_1 : wr.cell? ⟨gb373, 1, none⟩ = some (.int .i64 x374001_1) := (blk_cell BK373.out 1).trans rfl; have hcz51_2 : wr.cell? ⟨gb373, 2, none⟩ = some (.string x374002_1) := (blk_cell BK373.out 2).trans rfl; have hcz51_3 : wr.cell? ⟨gb373, 3, none⟩ = some (.int .i64 x374003_1) := (blk_cell BK373.out 3).trans rfl; have hcz51_4 : wr.cell? ⟨gb373, 4, none⟩ = some (.int .u64 x374004_1) := (blk_cell BK373.out 4).trans rfl; have hfz51_0 := blk_frozen BK373.out 0; have hfz51_1 := blk_frozen BK373.out 1; have hfz51_2 := blk_frozen BK373.out 2; have hfz51_3 := blk_frozen BK373.out 3; have hfz51_4 := blk_frozen BK373.out 4; have hcz52_0 : wr.cell? ⟨gb374, 0, none⟩ = some (.int .i64 x375000_1) := (blk_cell BK374.out 0).trans rfl; have hcz52_1 : wr.cell? ⟨gb374, 1, none⟩ = some (.int .i64 x375001_1) := (blk_cell BK374.out 1).trans rfl; have hfz52_0 := blk_frozen BK374.out 0; have hfz52_1 := blk_frozen BK374.out 1))
              refine bodyPost_ret (results_list (rs := [.cell 4 30, .tmp 5, .cell 6 25]) rfl (by simp) (.cell gb373 30 #[.int .i64 3, .int .i64 a1, .string (a0.extract (a1 : Int).toNat ((wrap64 (a1 + x8_1)) : Int).toNat), .int .i64 0, .int .u64 0] (0, 0) _ rfl (by (with_reducible repeat first | apply blk_drewN | apply blk_drew | apply blk_alloc); refine blk_far ?_ NB373_374.out _; (with_reducible repeat first | apply blk_drewN | apply blk_drew | apply blk_alloc); refine blk_far ?_ NB373_374.out _; (with_reducible repeat first | apply blk_drewN | apply blk_drew | apply blk_alloc); refine blk_put (cs := #[.int .i64 3, .int .i64 a1, .string (a0.extract (a1 : Int).toNat ((wrap64 (a1 + x8_1)) : Int).toNat), .int .i64 0, .int .u64 x374004_1]) ?_ 4 _ rfl; (with_reducible repeat first | apply blk_drewN | apply blk_drew | apply blk_alloc); refine blk_put (cs := #[.int .i64 3, .int .i64 a1, .string (a0.extract (a1 : Int).toNat ((wrap64 (a1 + x8_1)) : Int).toNat), .int .i64 x374003_1, .int .u64 x374004_1]) ?_ 3 _ rfl; (with_reducible repeat first | apply blk_drewN | apply blk_drew | apply blk_alloc); refine blk_put (cs := #[.int .i64 3, .int .i64 a1, .string x374002_1, .int .i64 x374003_1, .int .u64 x374004_1]) ?_ 2 _ rfl; (with_reducible repeat first | apply blk_drewN | apply blk_drew | apply blk_alloc); refine blk_put (cs := #[.int .i64 3, .int .i64 x374001_1, .string x374002_1, .int .i64 x374003_1, .int .u64 x374004_1]) ?_ 1 _ rfl; (with_reducible repeat first | apply blk_drewN | apply blk_drew | apply blk_alloc); refine blk_put (cs := #[.int .i64 x374000_1, .int .i64 x374001_1, .string x374002_1, .int .i64 x374003_1, .int .u64 x374004_1]) ?_ 0 _ rfl; (with_reducible repeat first | apply blk_drewN | apply blk_drew | apply blk_alloc); exact BK373.out) Tryd.underlying30 rfl (by kernel_rfl) (.tmp (.cell gb374 25 #[.int .i64 0, .int .i64 0] (0, 0) _ rfl (by (with_reducible repeat first | apply blk_drewN | apply blk_drew | apply blk_alloc); refine blk_put (cs := #[.int .i64 0, .int .i64 x375001_1]) ?_ 1 _ rfl; (with_reducible repeat first | apply blk_drewN | apply blk_drew | apply blk_alloc); refine blk_put (cs := #[.int .i64 x375000_1, .int .i64 x375001_1]) ?_ 0 _ rfl; (with_reducible repeat first | apply blk_drewN | apply blk_drew | apply blk_alloc); refine blk_far ?_ NB374_373.out _; (with_reducible repeat first | apply blk_drewN | apply blk_drew | apply blk_alloc); refine blk_far ?_ NB374_373.out _; (with_reducible repeat first | apply blk_drewN | apply blk_drew | apply blk_alloc); refine blk_far ?_ NB374_373.out _; (with_reducible repeat first | apply blk_drewN | apply blk_drew | apply blk_alloc); refine blk_far ?_ NB374_373.out _; (with_reducible repeat first | apply blk_drewN | apply blk_drew | apply blk_alloc); refine blk_far ?_ NB374_373.out _; (with_reducible repeat first | apply blk_drewN | apply blk_drew | apply blk_alloc); exact BK374.out) Tryd.underlying25 rfl (by kernel_rfl) .nil)))) rfl ?_
              exact ⟨x62_9, x62_1⟩
             ·replace c46 := Bool.eq_false_iff.mpr c46
              subst c46
              rw [if_neg (show ¬ (false = true) by decide)] at H
              have H' := Aside0.mk H
              clear H
              go_wp2_with (first | (go_at_call 33; (with_reducible refine (casketref11_mark.calls (a0.extract (a1 : Int).toNat ((wrap64 (a1 + x8_1)) : Int).toNat) false _ A45.out).mono ?_); rintro e w' ⟨rfl, ⟨nd, rfl⟩⟩))
              go_roundg k1
              case measure => have := HK1.out; omega
              case rel => exact ⟨(wrap64 (x8_1 - 1)), (x374000_1), (x374001_1), (x374002_1), (x374003_1), (x374004_1), (x375000_1), (x375001_1), x62_12, H', ⟨by have := HK1.out; omega⟩, ⟨x62_7⟩, ⟨x62_8⟩, ⟨x62_1⟩⟩
            ·rw [if_neg c43] at H
             exact absurd H (by simp)
           ·rw [if_neg c42] at H
            exact absurd H (by simp)
          ·rw [if_neg c41] at H
           have c41b0 := decide_eq_false c41
           clear c41
           have H' := Aside0.mk H
           clear H
           go_wp2
           go_roundg k1
           case measure => have := HK1.out; omega
           case rel => exact ⟨(wrap64 (x8_1 - 1)), (x374000_1), (x374001_1), (x374002_1), (x374003_1), (x374004_1), (x375000_1), (x375001_1), x62_12, H', ⟨by have := HK1.out; omega⟩, ⟨x62_7⟩, ⟨x62_8⟩, ⟨x62_1⟩⟩
         ·rw [if_neg c40] at H
          have c40b0 : decide (1 ≤ x8_1) = false := decide_eq_false c40
          clear c40
          replace H := Option.bind_eq_some_iff.mp H
          obtain ⟨⟨t402, t403, t404, t405, t406, t407, t408, t409⟩, A530, H⟩ := H
          replace H : (some (t402, t403, t404, t405, t406, t407, t408, t409)) = some (r1, r2, r3, r4, r5, r6, r7, r8) := H
          have A53 := Aside0.mk A530
          clear A530
          simp only [Option.some.injEq, Prod.mk.injEq] at H
          obtain ⟨rfl, rfl, rfl, rfl, rfl, rfl, rfl, rfl⟩ := H
          go_wp2_with (first | ((with_reducible refine gate_callee (f := 34) rfl ?_); refine goesL_ (some 76) rfl rfl Tryd.func34 (by kernel_rfl) rfl #[.int .i64 60, .int .i64 a1] rfl x62_3 ?_; (with_reducible refine (casketref11_fault.calls 60 a1 t402 t403 t404 t405 t406 t407 t408 t409 _ A53.out).mono ?_); rintro e w54 ⟨rfl, hb⟩; refine ⟨_, rfl, ?_⟩; have n0_ := Aside0.mk (blk_below (g := gb373) (o := .cells #[.int .i64 x374000_1, .int .i64 x374001_1, .string x374002_1, .int .i64 x374003_1, .int .u64 x374004_1] 30 (0, 0)) x62_7 hb); have n1_ := Aside0.mk (blk_below (g := gb374) (o := .cells #[.int .i64 x375000_1, .int .i64 x375001_1] 25 (0, 0)) x62_8 hb); have n2_ := Aside0.mk (below_step x62_1 hb); clear BK373; clear BK374; clear HB; have BK373 := n0_; have BK374 := n1_; have HB := n2_; clear n0_ n1_ n2_; have hnb55 := NB373_374.out; have hnc55 := NB374_373.out; have hcz56_0 : w54.cell? ⟨gb373, 0, none⟩ = some (.int .i64 x374000_1) := (blk_cell BK373.out 0).trans rfl; have hcz56_1 : w54.cell? ⟨gb373, 1, none⟩ = some (.int .i64 x374001_1) := (blk_cell BK373.out 1).trans rfl; have hcz56_2 : w54.cell? ⟨gb373, 2, none⟩ = some (.string x374002_1) := (blk_cell BK373.out 2).trans rfl; have hcz56_3 : w54.cell? ⟨gb373, 3, none⟩ = some (.int .i64 x374003_1) := (blk_cell BK373.out 3).trans rfl; have hcz56_4 : w54.cell? ⟨gb373, 4, none⟩ = some (.int .u64 x374004_1) := (blk_cell BK373.out 4).trans rfl; have hfz56_0 := blk_frozen BK373.out 0; have hfz56_1 := blk_frozen BK373.out 1; have hfz56_2 := blk_frozen BK373.out 2; have hfz56_3 := blk_frozen BK373.out 3; have hfz56_4 := blk_frozen BK373.out 4; have hcz57_0 : w54.cell? ⟨gb374, 0, none⟩ = some (.int .i64 x375000_1) := (blk_cell BK374.out 0).trans rfl; have hcz57_1 : w54.cell? ⟨gb374, 1, none⟩ = some (.int .i64 x375001_1) := (blk_cell BK374.out 1).trans rfl; have hfz57_0 := blk_frozen BK374.out 0; have hfz57_1 := blk_frozen BK374.out 1))
          refine bodyPost_ret (results_list (rs := [.cell 4 30, .tmp 5, .cell 6 25]) rfl (by simp) (.cell gb373 30 #[.int .i64 t402, .int .i64 t403, .string t404, .int .i64 t405, .int .u64 t406] (0, 0) _ rfl (by (with_reducible repeat first | apply blk_drewN | apply blk_drew | apply blk_alloc); refine blk_far ?_ NB373_374.out _; (with_reducible repeat first | apply blk_drewN | apply blk_drew | apply blk_alloc); refine blk_far ?_ NB373_374.out _; (with_reducible repeat first | apply blk_drewN | apply blk_drew | apply blk_alloc); refine blk_put (cs := #[.int .i64 t402, .int .i64 t403, .string t404, .int .i64 t405, .int .u64 x374004_1]) ?_ 4 _ rfl; (with_reducible repeat first | apply blk_drewN | apply blk_drew | apply blk_alloc); refine blk_put (cs := #[.int .i64 t402, .int .i64 t403, .string t404, .int .i64 x374003_1, .int .u64 x374004_1]) ?_ 3 _ rfl; (with_reducible repeat first | apply blk_drewN | apply blk_drew | apply blk_alloc); refine blk_put (cs := #[.int .i64 t402, .int .i64 t403, .string x374002_1, .int .i64 x374003_1, .int .u64 x374004_1]) ?_ 2 _ rfl; (with_reducible repeat first | apply blk_drewN | apply blk_drew | apply blk_alloc); refine blk_put (cs := #[.int .i64 t402, .int .i64 x374001_1, .string x374002_1, .int .i64 x374003_1, .int .u64 x374004_1]) ?_ 1 _ rfl; (with_reducible repeat first | apply blk_drewN | apply blk_drew | apply blk_alloc); refine blk_put (cs := #[.int .i64 x374000_1, .int .i64 x374001_1, .string x374002_1, .int .i64 x374003_1, .int .u64 x374004_1]) ?_ 0 _ rfl; (with_reducible repeat first | apply blk_drewN | apply blk_drew | apply blk_alloc); exact BK373.out) Tryd.underlying30 rfl (by kernel_rfl) (.tmp (.cell gb374 25 #[.int .i64 t408, .int .i64 t409] (0, 0) _ rfl (by (with_reducible repeat first | apply blk_drewN | apply blk_drew | apply blk_alloc); refine blk_put (cs := #[.int .i64 t408, .int .i64 x375001_1]) ?_ 1 _ rfl; (with_reducible repeat first | apply blk_drewN | apply blk_drew | apply blk_alloc); refine blk_put (cs := #[.int .i64 x375000_1, .int .i64 x375001_1]) ?_ 0 _ rfl; (with_reducible repeat first | apply blk_drewN | apply blk_drew | apply blk_alloc); refine blk_far ?_ NB374_373.out _; (with_reducible repeat first | apply blk_drewN | apply blk_drew | apply blk_alloc); refine blk_far ?_ NB374_373.out _; (with_reducible repeat first | apply blk_drewN | apply blk_drew | apply blk_alloc); refine blk_far ?_ NB374_373.out _; (with_reducible repeat first | apply blk_drewN | apply blk_drew | apply blk_alloc); refine blk_far ?_ NB374_373.out _; (with_reducible repeat first | apply blk_drewN | apply blk_drew | apply blk_alloc); refine blk_far ?_ NB374_373.out _; (with_reducible repeat first | apply blk_drewN | apply blk_drew | apply blk_alloc); exact BK374.out) Tryd.underlying25 rfl (by kernel_rfl) .nil)))) rfl ?_
          exact ⟨x62_9, x62_1⟩
   ·rw [if_neg c10] at H
    exact absurd H (by simp)
  ·rw [if_neg c9] at H
   exact absurd H (by simp)
end Go.Proofs.YtjolkombhdibcaaDoor.Print
end
section
namespace Go.Proofs.YtjolkombhdibcaaDoor.Sp
open Go.RowKit Go.Proofs.YtjolkombhdibcaaDoorW.PrintWords Go.Proofs.YtjolkombhdibcaaDoorW.PrintMore Go.Proofs.YtjolkombhdibcaaDoor.Given Go.Proofs.YtjolkombhdibcaaDoor.Print
set_option linter.unusedVariables false
set_option linter.unusedSimpArgs false
abbrev T8 := Int × Int × ByteArray × Int × Int × Int × Int × Int
def refT (t : T7) (p : Nat) : T8 := if te t = 0 then (t.1, p, t.2.2.1, t.2.2.2.1, t.2.2.2.2.1, p + tn t, 0, 0) else (0, 0, bs [], 0, 0, p, te t, p)
theorem refT_tok (k : Int) (t : List UInt8) (i b : Int) (n p : Nat) : refT (tok k t i b n) p = (k, (p : Int), bs t, i, b, ((p + n : Nat) : Int), 0, 0) := by
  unfold refT
  rw [if_pos (tok_te k t i b n)]
  show (k, (p : Int), bs t, i, b, (p : Int) + (n : Int), (0 : Int), (0 : Int)) = _
  rw [show (p : Int) + (n : Int) = ((p + n : Nat) : Int) by omega]
theorem refT_bad {e : Int} (h : e ≠ 0) (p : Nat) : refT (bad e) p = (0, 0, bs [], 0, 0, (p : Int), e, (p : Int)) := by
  unfold refT
  rw [if_neg (show te (bad e) ≠ 0 from h)]; rfl
theorem starts_f (c : UInt8) : casketref11_starts.f (c.toNat : Int) = some (lowB c) := by
  unfold casketref11_starts.f lowB
  have h5 : ((c.toNat : Int) == 95) = (c == 95) := c_eq (n := 95) (by decide)
  by_cases h1 : 97 ≤ c.toNat
  · rw [if_pos (by omega)]
    by_cases h2 : c.toNat ≤ 122
    · rw [if_pos (by omega), decide_eq_true ⟨h1, h2⟩]; rfl
    · rw [if_neg (by omega), decide_eq_false (by omega), h5]; rfl
  · rw [if_neg (by omega), decide_eq_false (by omega), h5]; rfl
theorem rdigit_f (c : UInt8) : casketref11_digit.f (c.toNat : Int) = some (isDig c) := by
  unfold casketref11_digit.f isDig
  by_cases h : 48 ≤ c.toNat
  · rw [if_pos (by omega)]; congr 1; rw [decide_eq_decide]; omega
  · rw [if_neg (by omega), decide_eq_false (by omega)]
theorem goesOn_f (c : UInt8) : casketref11_goesOn.f (c.toNat : Int) = some (nameB c) := by
  unfold casketref11_goesOn.f nameB
  rw [starts_f, rdigit_f]
  cases lowB c <;> rfl
def hexJ (c : UInt8) : Int := match hexV c with | some v => v | none => -1
theorem rhex_f (c : UInt8) : casketref11_hex.f (c.toNat : Int) = some (hexJ c) := by
  unfold casketref11_hex.f hexJ hexV
  rw [rdigit_f]
  by_cases h1 : 48 ≤ c.toNat ∧ c.toNat ≤ 57
  · rw [if_pos h1]
    show (if isDig c = true then _ else _) = _
    rw [if_pos (by unfold isDig; exact decide_eq_true h1)]
    congr 1
    dsimp only
    omega
  · rw [if_neg h1]
    show (if isDig c = true then _ else _) = _
    rw [if_neg (by unfold isDig; simpa using h1)]
    by_cases h2 : 97 ≤ c.toNat ∧ c.toNat ≤ 102
    · rw [if_pos h2, if_pos (by omega), if_pos (by omega)]
      congr 1
      dsimp only
      omega
    · rw [if_neg h2]
      by_cases h3 : 97 ≤ c.toNat
      · rw [if_pos (by omega), if_neg (by omega)]
      · rw [if_neg (by omega)]
theorem hexJ_pos (c : UInt8) : (hexJ c ≥ 0) ↔ hexB c = true := by
  rw [hexDB]
  unfold hexJ
  cases hexV c with
  | none => simp
  | some v => simp
theorem run_stop {p : UInt8 → Bool} {c : UInt8} (h : p c = false) (r : List UInt8) : Given.runN p (c :: r) = 0 := by
  unfold Given.runN
  rw [List.takeWhile_cons, h]; rfl
theorem cut_ext (l : List UInt8) {p n : Nat} (h : p ≤ n) : (bs l).extract p n = bs ((l.drop p).take (n - p)) := by
  rw [bs_ext, List.drop_take]
theorem cut_len (l : List UInt8) {p n : Nat} (h : p ≤ n) (hn : n ≤ l.length) : ((l.drop p).take (n - p)).length = n - p := by
  rw [List.length_take, List.length_drop]; omega
theorem reserved_f (t : List UInt8) : casketref11_Reserved.f (bs t) = some (decide (t ∈ wordsL)) := by
  unfold casketref11_Reserved.f
  simp only [bs_toList]
  by_cases h : t ∈ wordsL
  · rw [decide_eq_true h]
    unfold wordsL at h
    simp only [List.mem_cons, List.not_mem_nil, or_false] at h
    rcases h with rfl | rfl | rfl | rfl | rfl | rfl | rfl | rfl | rfl | rfl | rfl | rfl | rfl | rfl | rfl | rfl | rfl <;> rfl
  · rw [decide_eq_false h]
    unfold wordsL at h
    simp only [List.mem_cons, List.not_mem_nil, or_false, not_or] at h
    obtain ⟨h1, h2, h3, h4, h5, h6, h7, h8, h9, h10, h11, h12, h13, h14, h15, h16, h17⟩ := h
    rw [if_neg h1, if_neg h2, if_neg h3, if_neg h4, if_neg h5, if_neg h6, if_neg h7, if_neg h8, if_neg h9, if_neg h10, if_neg h11, if_neg h12, if_neg h13, if_neg h14, if_neg h15, if_neg h16, if_neg h17]
theorem rmark_f (t : List UInt8) : casketref11_mark.f (bs t) = some (decide (t ∈ marksL)) := by
  unfold casketref11_mark.f
  simp only [bs_toList]
  by_cases h : t ∈ marksL
  · rw [decide_eq_true h]
    unfold marksL at h
    simp only [List.mem_cons, List.not_mem_nil, or_false] at h
    rcases h with rfl | rfl | rfl | rfl | rfl | rfl | rfl | rfl | rfl | rfl | rfl | rfl | rfl | rfl | rfl | rfl | rfl | rfl | rfl | rfl | rfl | rfl | rfl | rfl | rfl | rfl | rfl | rfl | rfl <;> rfl
  · rw [decide_eq_false h]
    unfold marksL at h
    simp only [List.mem_cons, List.not_mem_nil, or_false, not_or] at h
    obtain ⟨h1, h2, h3, h4, h5, h6, h7, h8, h9, h10, h11, h12, h13, h14, h15, h16, h17, h18, h19, h20, h21, h22, h23, h24, h25, h26, h27, h28, h29⟩ := h
    rw [if_neg h1, if_neg h2, if_neg h3, if_neg h4, if_neg h5, if_neg h6, if_neg h7, if_neg h8, if_neg h9, if_neg h10, if_neg h11, if_neg h12, if_neg h13, if_neg h14, if_neg h15, if_neg h16, if_neg h17, if_neg h18, if_neg h19, if_neg h20, if_neg h21, if_neg h22, if_neg h23, if_neg h24, if_neg h25, if_neg h26, if_neg h27, if_neg h28, if_neg h29]
theorem rname_j2 (t : List UInt8) (p : Nat) (ht : t.length ≤ 31) : Ev (fun k => casketref11_name.j2 k (p : Int) ((p + t.length : Nat) : Int) (bs t) (decide (t = [105, 110, 102] ∨ t = [110, 97, 110]))) (refT (nameT t) p) := by
  refine Ev.step (fun k => by rw [casketref11_name.j2]) ?_
  unfold nameT
  rw [if_neg (by omega)]
  by_cases h : t = [105, 110, 102] ∨ t = [110, 97, 110]
  · rw [if_pos h, refT_tok]
    exact Ev.yes (decide_eq_true h) (Ev.bind (refParseFloat_ev t (by omega)) (Ev.ret rfl))
  · rw [if_neg h]
    refine Ev.no (by simpa using h) (Ev.bind0 (reserved_f t) ?_)
    by_cases hw : t ∈ wordsL
    · rw [if_pos hw, refT_tok]; exact Ev.yes (decide_eq_true hw) (Ev.ret rfl)
    · rw [if_neg hw, refT_tok]; exact Ev.no (by simpa using hw) (Ev.ret rfl)
theorem rname_j1 (l : List UInt8) (hl : l.length ≤ 1000000) (p n : Nat) (h1 : p ≤ n) (h2 : n ≤ l.length) : Ev (fun k => casketref11_name.j1 k (bs l) (p : Int) (n : Int)) (refT (nameT ((l.drop p).take (n - p))) p) := by
  refine Ev.step (fun k => by rw [casketref11_name.j1]) ?_
  refine Ev.yes (by omega) (Ev.yes (by omega) (Ev.yes (by rw [bs_size]; omega) ?_))
  have hlen := cut_len l h1 h2
  rw [Int.toNat_natCast, Int.toNat_natCast, cut_ext l h1, bs_size, hlen]
  generalize ht : (l.drop p).take (n - p) = t at hlen
  by_cases h : 31 < n - p
  · have : nameT t = bad 63 := by unfold nameT; rw [if_pos (by omega)]
    rw [this, refT_bad (by decide)]
    exact Ev.yes (by omega) (Ev.ret rfl)
  · refine Ev.no (by omega) ?_
    have hj := rname_j2 t p (by omega)
    rw [hlen, show p + (n - p) = n by omega] at hj
    rw [bs_toList]
    by_cases g1 : t = [105, 110, 102]
    · rw [decide_eq_true (.inl g1)] at hj
      exact Ev.yes g1 hj
    · refine Ev.no g1 ?_
      have e : decide (t = [105, 110, 102] ∨ t = [110, 97, 110]) = (t == [110, 97, 110]) := by
        by_cases g2 : t = [110, 97, 110]
        · rw [decide_eq_true (.inr g2), beq_iff_eq.2 g2]
        · rw [decide_eq_false (fun h => h.elim g1 g2), beq_eq_false_iff_ne.2 g2]
      rw [e] at hj
      exact hj
theorem rname_l0 (l : List UInt8) (hl : l.length ≤ 1000000) (p : Nat) (X : T8) : ∀ (m : Nat) (r : List UInt8) (q : Nat), r.length ≤ m → l.drop q = r → q ≤ l.length →
    Ev (fun k => casketref11_name.j1 k (bs l) (p : Int) ((q + Given.runN nameB r : Nat) : Int)) X → Ev (fun k => casketref11_name.l0 k (bs l) (p : Int) (q : Int)) X := by
  intro m
  induction m with
  | zero =>
    intro r q hm h hq hX
    have : r = [] := List.eq_nil_of_length_eq_zero (by omega)
    subst this
    have : l.length ≤ q := by have := List.drop_eq_nil_iff.1 h; omega
    refine Ev.step (fun k => by rw [casketref11_name.l0]) ?_
    exact Ev.no (by rw [bs_size]; omega) hX
  | succ m ih =>
    intro r q hm h hq hX
    cases r with
    | nil =>
      have : l.length ≤ q := by have := List.drop_eq_nil_iff.1 h; omega
      refine Ev.step (fun k => by rw [casketref11_name.l0]) ?_
      exact Ev.no (by rw [bs_size]; omega) hX
    | cons c r =>
      obtain ⟨h1, h2, h3⟩ := drop_cons h
      refine Ev.step (fun k => by rw [casketref11_name.l0]) ?_
      refine Ev.yes (by rw [bs_size]; omega) (Ev.yes (by omega) ?_)
      rw [bt_bs, h1]
      refine Ev.bind0 (goesOn_f c) ?_
      by_cases hc : nameB c = true
      · refine Ev.yes hc ?_
        rw [w64 (by omega) (by omega)]
        refine ih r (q + 1) (by simpa using hm) h3 (by omega) ?_
        rw [run_cons hc, show q + (1 + Given.runN nameB r) = q + 1 + Given.runN nameB r by omega] at hX
        exact hX
      · refine Ev.no hc ?_
        rw [run_stop (by simpa using hc)] at hX
        exact hX
theorem rname_ev (l : List UInt8) (hl : l.length ≤ 1000000) (p : Nat) (hp : p ≤ l.length) : Ev (fun k => casketref11_name.f k (bs l) (p : Int)) (refT (nameT ((l.drop p).takeWhile nameB)) p) := by
  unfold casketref11_name.f
  have hle := runN_le nameB (l.drop p)
  rw [List.length_drop] at hle
  refine rname_l0 l hl p _ _ _ p (Nat.le_refl _) rfl hp ?_
  have := rname_j1 l hl p (p + Given.runN nameB (l.drop p)) (by omega) (by omega)
  rw [show p + Given.runN nameB (l.drop p) - p = Given.runN nameB (l.drop p) by omega, take_run] at this
  exact this
theorem rnum_j7 (l : List UInt8) (hl : l.length ≤ 1000000) (p n : Nat) (h1 : p ≤ n) (h2 : n ≤ l.length) : Ev (fun k => casketref11_number.j7 k (bs l) (p : Int) (n : Int)) (refT (floatTok ((l.drop p).take (n - p))) p) := by
  refine Ev.step (fun k => by rw [casketref11_number.j7]) ?_
  refine Ev.yes (by omega) (Ev.yes (by omega) (Ev.yes (by rw [bs_size]; omega) ?_))
  have hlen := cut_len l h1 h2
  rw [Int.toNat_natCast, Int.toNat_natCast, cut_ext l h1]
  generalize ht : (l.drop p).take (n - p) = t at hlen
  refine Ev.bind (refParseFloat_ev t (by omega)) ?_
  unfold floatTok
  by_cases h : (pfS t).2 = 0
  · simp only [if_pos h]
    rw [refT_tok, hlen, show p + (n - p) = n by omega]
    exact Ev.ret rfl
  · simp only [if_neg h]
    rw [refT_bad (by decide)]
    exact Ev.ret rfl
theorem rnum_j9 (l : List UInt8) (hl : l.length ≤ 1000000) (p n : Nat) (h1 : p ≤ n) (h2 : n ≤ l.length) : Ev (fun k => casketref11_number.j9 k (bs l) (p : Int) (n : Int)) (refT (wholeTok ((l.drop p).take (n - p))) p) := by
  refine Ev.step (fun k => by rw [casketref11_number.j9]) ?_
  refine Ev.yes (by omega) (Ev.yes (by omega) (Ev.yes (by rw [bs_size]; omega) ?_))
  have hlen := cut_len l h1 h2
  rw [Int.toNat_natCast, Int.toNat_natCast, cut_ext l h1]
  generalize ht : (l.drop p).take (n - p) = t at hlen
  refine Ev.bind (refParseInt_ev t (by omega)) ?_
  unfold wholeTok
  by_cases h : (parseIntT t).2 = 0
  · simp only [if_pos h]
    rw [refT_tok, hlen, show p + (n - p) = n by omega]
    exact Ev.ret rfl
  · simp only [if_neg h]
    rw [refT_bad (by decide)]
    exact Ev.ret rfl
theorem rnum_l1 (l : List UInt8) (hl : l.length ≤ 1000000) (p : Nat) (X : T8) : ∀ (m : Nat) (r : List UInt8) (q : Nat), r.length ≤ m → l.drop q = r → q ≤ l.length →
    Ev (fun k => casketref11_number.j7 k (bs l) (p : Int) ((q + Given.runN isDig r : Nat) : Int)) X → Ev (fun k => casketref11_number.l1 k (bs l) (p : Int) (q : Int)) X := by
  intro m
  induction m with
  | zero =>
    intro r q hm h hq hX
    have : r = [] := List.eq_nil_of_length_eq_zero (by omega)
    subst this
    have : l.length ≤ q := by have := List.drop_eq_nil_iff.1 h; omega
    refine Ev.step (fun k => by rw [casketref11_number.l1]) ?_
    exact Ev.no (by rw [bs_size]; omega) hX
  | succ m ih =>
    intro r q hm h hq hX
    cases r with
    | nil =>
      have : l.length ≤ q := by have := List.drop_eq_nil_iff.1 h; omega
      refine Ev.step (fun k => by rw [casketref11_number.l1]) ?_
      exact Ev.no (by rw [bs_size]; omega) hX
    | cons c r =>
      obtain ⟨h1, h2, h3⟩ := drop_cons h
      refine Ev.step (fun k => by rw [casketref11_number.l1]) ?_
      refine Ev.yes (by rw [bs_size]; omega) (Ev.yes (by omega) ?_)
      rw [bt_bs, h1]
      refine Ev.bind0 (rdigit_f c) ?_
      by_cases hc : isDig c = true
      · refine Ev.yes hc ?_
        rw [w64 (by omega) (by omega)]
        refine ih r (q + 1) (by simpa using hm) h3 (by omega) ?_
        rw [run_cons hc, show q + (1 + Given.runN isDig r) = q + 1 + Given.runN isDig r by omega] at hX
        exact hX
      · refine Ev.no hc ?_
        rw [run_stop (by simpa using hc)] at hX
        exact hX
theorem rnum_l2 (l : List UInt8) (hl : l.length ≤ 1000000) (p : Nat) (X : T8) : ∀ (m : Nat) (r : List UInt8) (q : Nat), r.length ≤ m → l.drop q = r → q ≤ l.length →
    Ev (fun k => casketref11_number.j9 k (bs l) (p : Int) ((q + Given.runN isDig r : Nat) : Int)) X → Ev (fun k => casketref11_number.l2 k (bs l) (p : Int) (q : Int)) X := by
  intro m
  induction m with
  | zero =>
    intro r q hm h hq hX
    have : r = [] := List.eq_nil_of_length_eq_zero (by omega)
    subst this
    have : l.length ≤ q := by have := List.drop_eq_nil_iff.1 h; omega
    refine Ev.step (fun k => by rw [casketref11_number.l2]) ?_
    exact Ev.no (by rw [bs_size]; omega) hX
  | succ m ih =>
    intro r q hm h hq hX
    cases r with
    | nil =>
      have : l.length ≤ q := by have := List.drop_eq_nil_iff.1 h; omega
      refine Ev.step (fun k => by rw [casketref11_number.l2]) ?_
      exact Ev.no (by rw [bs_size]; omega) hX
    | cons c r =>
      obtain ⟨h1, h2, h3⟩ := drop_cons h
      refine Ev.step (fun k => by rw [casketref11_number.l2]) ?_
      refine Ev.yes (by rw [bs_size]; omega) (Ev.yes (by omega) ?_)
      rw [bt_bs, h1]
      refine Ev.bind0 (rdigit_f c) ?_
      by_cases hc : isDig c = true
      · refine Ev.yes hc ?_
        rw [w64 (by omega) (by omega)]
        refine ih r (q + 1) (by simpa using hm) h3 (by omega) ?_
        rw [run_cons hc, show q + (1 + Given.runN isDig r) = q + 1 + Given.runN isDig r by omega] at hX
        exact hX
      · refine Ev.no hc ?_
        rw [run_stop (by simpa using hc)] at hX
        exact hX
theorem rnum_l0 (l : List UInt8) (hl : l.length ≤ 1000000) (p : Nat) (X : T8) : ∀ (m : Nat) (r : List UInt8) (q : Nat), r.length ≤ m → l.drop q = r → q ≤ l.length →
    Ev (fun k => casketref11_number.j2 k (bs l) (p : Int) ((q + Given.runN dotB r : Nat) : Int)) X → Ev (fun k => casketref11_number.l0 k (bs l) (p : Int) (q : Int)) X := by
  intro m
  induction m with
  | zero =>
    intro r q hm h hq hX
    have : r = [] := List.eq_nil_of_length_eq_zero (by omega)
    subst this
    have : l.length ≤ q := by have := List.drop_eq_nil_iff.1 h; omega
    refine Ev.step (fun k => by rw [casketref11_number.l0]) ?_
    exact Ev.no (by rw [bs_size]; omega) hX
  | succ m ih =>
    intro r q hm h hq hX
    cases r with
    | nil =>
      have : l.length ≤ q := by have := List.drop_eq_nil_iff.1 h; omega
      refine Ev.step (fun k => by rw [casketref11_number.l0]) ?_
      exact Ev.no (by rw [bs_size]; omega) hX
    | cons c r =>
      obtain ⟨h1, h2, h3⟩ := drop_cons h
      refine Ev.step (fun k => by rw [casketref11_number.l0]) ?_
      refine Ev.yes (by rw [bs_size]; omega) (Ev.yes (by omega) ?_)
      rw [bt_bs, h1]
      refine Ev.bind0 (rhex_f c) ?_
      have go : dotB c = true → Ev (fun k => casketref11_number.l0 k (bs l) (p : Int) (wrap64 ((q : Int) + 1))) X := by
        intro hc
        rw [w64 (by omega) (by omega)]
        refine ih r (q + 1) (by simpa using hm) h3 (by omega) ?_
        rw [run_cons hc, show q + (1 + Given.runN dotB r) = q + 1 + Given.runN dotB r by omega] at hX
        exact hX
      by_cases hc : hexB c = true
      · exact Ev.yes ((hexJ_pos c).2 hc) (go (by unfold dotB; rw [hc]; rfl))
      · refine Ev.no (fun e => hc ((hexJ_pos c).1 e)) ?_
        by_cases h46 : c = 46
        · exact Ev.yes (by rw [h46]; rfl) (go (by unfold dotB; rw [h46]; rfl))
        · refine Ev.no (fun e => h46 (u8_eq (n := 46) e (by decide))) ?_
          rw [run_stop (by unfold dotB; rw [Bool.eq_false_iff.2 hc, Bool.false_or]; exact beq_eq_false_iff_ne.2 h46)] at hX
          exact hX
theorem rnum_l1' (l : List UInt8) (hl : l.length ≤ 1000000) (p q : Nat) (h1 : p ≤ q) (h2 : q ≤ l.length) : Ev (fun k => casketref11_number.l1 k (bs l) (p : Int) (q : Int)) (refT (floatTok ((l.drop p).take (q - p + Given.runN isDig (l.drop q)))) p) := by
  have hle := runN_le isDig (l.drop q)
  rw [List.length_drop] at hle
  refine rnum_l1 l hl p _ _ _ q (Nat.le_refl _) rfl h2 ?_
  have := rnum_j7 l hl p (q + Given.runN isDig (l.drop q)) (by omega) (by omega)
  rw [show q + Given.runN isDig (l.drop q) - p = q - p + Given.runN isDig (l.drop q) by omega] at this
  exact this
theorem rnum_j4 (l : List UInt8) (hl : l.length ≤ 1000000) (p n : Nat) (h1 : p ≤ n) (h2 : n ≤ l.length) :
    Ev (fun k => casketref11_number.j4 k (bs l) (p : Int) (n : Int) (decide ((l.drop n).head? = some 43 ∨ (l.drop n).head? = some 45))) (refT (floatTok ((l.drop p).take (n - p + expN (l.drop n)))) p) := by
  refine Ev.step (fun k => by rw [casketref11_number.j4]) ?_
  have other : ¬ ((l.drop n).head? = some 43 ∨ (l.drop n).head? = some 45) → expN (l.drop n) = Given.runN isDig (l.drop n) := by
    intro h
    generalize l.drop n = q at h
    unfold expN
    split
    · exact absurd (.inl rfl) h
    · exact absurd (.inr rfl) h
    · rfl
  by_cases hs : (l.drop n).head? = some 43 ∨ (l.drop n).head? = some 45
  · refine Ev.yes (decide_eq_true hs) ?_
    cases h : l.drop n with
    | nil => rw [h] at hs; simp at hs
    | cons c r =>
      rw [h] at hs
      obtain ⟨g1, g2, g3⟩ := drop_cons h
      have hc : c = 43 ∨ c = 45 := by simpa using hs
      have e1 : expN (c :: r) = 1 + Given.runN isDig (l.drop (n + 1)) := by
        rw [g3]
        rcases hc with rfl | rfl <;> rfl
      rw [e1, w64 (by omega) (by omega)]
      refine Ev.step (fun k => by rw [casketref11_number.j5]) ?_
      have := rnum_l1' l hl p (n + 1) (by omega) (by omega)
      rw [show n + 1 - p + Given.runN isDig (l.drop (n + 1)) = n - p + (1 + Given.runN isDig (l.drop (n + 1))) by omega] at this
      exact this
  · rw [other hs]
    refine Ev.no (by simpa using hs) ?_
    refine Ev.step (fun k => by rw [casketref11_number.j5]) ?_
    exact rnum_l1' l hl p n h1 h2
theorem rnum_j3 (l : List UInt8) (hl : l.length ≤ 1000000) (p n : Nat) (h1 : p ≤ n) (h2 : n ≤ l.length) :
    Ev (fun k => casketref11_number.j3 k (bs l) (p : Int) (n : Int) (decide ((l.drop n).head? = some 112))) (refT (floatTok ((l.drop p).take (n - p + tailN (l.drop n)))) p) := by
  refine Ev.step (fun k => by rw [casketref11_number.j3]) ?_
  by_cases hp : (l.drop n).head? = some 112
  · cases h : l.drop n with
    | nil => rw [h] at hp; simp at hp
    | cons c r =>
      rw [h] at hp
      have hc : c = 112 := by simpa using hp
      subst hc
      obtain ⟨g1, g2, g3⟩ := drop_cons h
      have e1 : n - p + tailN (112 :: r) = n + 1 - p + expN (l.drop (n + 1)) := by
        rw [g3]
        show n - p + (1 + expN r) = _
        omega
      rw [e1]
      have hj := rnum_j4 l hl p (n + 1) (by omega) (by omega)
      refine Ev.yes (by simp) ?_
      rw [w64 (x := (n : Int) + 1) (by omega) (by omega), bs_size]
      by_cases hlt : n + 1 < l.length
      · refine Ev.yes (by omega) (Ev.yes (by omega) ?_)
        have hb : bt (bs l) ((n : Int) + 1) = ((l.getD (n + 1) 0).toNat : Int) := bt_bs l (n + 1)
        rw [hb]
        cases r with
        | nil => have := congrArg List.length g3; simp at this; omega
        | cons d q =>
          obtain ⟨k1, _, _⟩ := drop_cons g3
          rw [k1]
          rw [g3] at hj
          by_cases h43 : d = 43
          · subst h43
            rw [g3]
            exact Ev.yes rfl hj
          · refine Ev.no (fun e => h43 (u8_eq (n := 43) e (by decide))) ?_
            have e2 : decide ((d :: q).head? = some 43 ∨ (d :: q).head? = some 45) = ((d.toNat : Int) == 45) := by
              by_cases h45 : d = 45
              · subst h45; rfl
              · rw [decide_eq_false (by simp [h43, h45])]
                exact (beq_eq_false_iff_ne.2 (fun e => h45 (u8_eq (n := 45) e (by decide)))).symm
            rw [e2] at hj
            rw [g3]
            exact hj
      · refine Ev.no (by omega) ?_
        have hnil : l.drop (n + 1) = [] := List.drop_eq_nil_of_le (by omega)
        rw [hnil] at hj ⊢
        exact hj
  · have e1 : tailN (l.drop n) = 0 := by
      generalize l.drop n = q at hp
      unfold tailN
      split
      · exact absurd rfl hp
      · rfl
    rw [e1, Nat.add_zero]
    exact Ev.no (by simpa using hp) (rnum_j7 l hl p n h1 h2)
theorem rnum_j2 (l : List UInt8) (hl : l.length ≤ 1000000) (p n : Nat) (h1 : p ≤ n) (h2 : n ≤ l.length) :
    Ev (fun k => casketref11_number.j2 k (bs l) (p : Int) (n : Int)) (refT (floatTok ((l.drop p).take (n - p + tailN (l.drop n)))) p) := by
  refine Ev.step (fun k => by rw [casketref11_number.j2]) ?_
  have hj := rnum_j3 l hl p n h1 h2
  by_cases hlt : n < l.length
  · refine Ev.yes (by rw [bs_size]; omega) (Ev.yes (by omega) ?_)
    rw [bt_bs]
    cases h : l.drop n with
    | nil => have := congrArg List.length h; simp at this; omega
    | cons c r =>
      obtain ⟨g1, _, _⟩ := drop_cons h
      rw [g1]
      rw [h] at hj
      have e : decide ((c :: r).head? = some 112) = ((c.toNat : Int) == 112) := by
        by_cases hc : c = 112
        · subst hc; rfl
        · rw [decide_eq_false (by simp [hc])]
          exact (beq_eq_false_iff_ne.2 (fun e => hc (u8_eq (n := 112) e (by decide)))).symm
      rw [e] at hj
      exact hj
  · refine Ev.no (by rw [bs_size]; omega) ?_
    have hnil : l.drop n = [] := List.drop_eq_nil_of_le (by omega)
    rw [hnil] at hj ⊢
    exact hj
theorem rnum_ev (l : List UInt8) (hl : l.length ≤ 1000000) (p : Nat) (c : UInt8) (r : List UInt8) (h : l.drop p = c :: r) (hc : isDig c = true) :
    Ev (fun k => casketref11_number.f k (bs l) (p : Int)) (refT (if Lib.hasPrefix (c :: r) [48, 120] = true then floatTok ((c :: r).take (dblN (c :: r))) else wholeTok ((c :: r).takeWhile isDig)) p) := by
  obtain ⟨h1, h2, h3⟩ := drop_cons h
  unfold casketref11_number.f
  refine Ev.yes (by omega) (Ev.yes (by rw [bs_size]; omega) ?_)
  rw [bt_bs, h1, w64 (x := (p : Int) + 1) (by omega) (by omega), bs_size]
  have yes : Lib.hasPrefix (c :: r) [48, 120] = true → Ev (fun k => casketref11_number.j0 k (bs l) (p : Int) (p : Int) true) (refT (floatTok ((c :: r).take (dblN (c :: r)))) p) := by
    intro hp
    refine Ev.step (fun k => by rw [casketref11_number.j0]) ?_
    refine Ev.yes rfl ?_
    rw [w64 (by omega) (by omega)]
    have hlen : 2 ≤ (c :: r).length := by
      rcases pre2 (c :: r) with ⟨_, q, hq, _⟩ | ⟨hn, _, _⟩
      · rw [hq]; simp
      · rw [hn] at hp; cases hp
    have hl2 : p + 2 ≤ l.length := by
      have := congrArg List.length h
      rw [List.length_drop] at this
      omega
    have hd2 : l.drop (p + 2) = (c :: r).drop 2 := by rw [← h, List.drop_drop]
    have hle := runN_le dotB (l.drop (p + 2))
    rw [List.length_drop] at hle
    refine rnum_l0 l hl p _ _ _ (p + 2) (Nat.le_refl _) rfl hl2 ?_
    have hj := rnum_j2 l hl p (p + 2 + Given.runN dotB (l.drop (p + 2))) (by omega) (by omega)
    have e : p + 2 + Given.runN dotB (l.drop (p + 2)) - p + tailN (l.drop (p + 2 + Given.runN dotB (l.drop (p + 2)))) = dblN (c :: r) := by
      unfold dblN
      rw [← hd2, ← h, List.drop_drop, show p + (2 + Given.runN dotB (l.drop (p + 2))) = p + 2 + Given.runN dotB (l.drop (p + 2)) by omega]
      omega
    rw [e, h] at hj
    exact hj
  have no : Lib.hasPrefix (c :: r) [48, 120] = false → Ev (fun k => casketref11_number.j0 k (bs l) (p : Int) (p : Int) false) (refT (wholeTok ((c :: r).takeWhile isDig)) p) := by
    intro hp
    refine Ev.step (fun k => by rw [casketref11_number.j0]) ?_
    refine Ev.no (by simp) ?_
    have hle := runN_le isDig (l.drop p)
    rw [List.length_drop] at hle
    refine rnum_l2 l hl p _ _ _ p (Nat.le_refl _) rfl (by omega) ?_
    have := rnum_j9 l hl p (p + Given.runN isDig (l.drop p)) (by omega) (by omega)
    rw [show p + Given.runN isDig (l.drop p) - p = Given.runN isDig (l.drop p) by omega, take_run, h] at this
    rw [h]
    exact this
  have pre : Lib.hasPrefix (c :: r) [48, 120] = true ↔ c = 48 ∧ r.head? = some 120 := by
    rcases pre2 (c :: r) with ⟨e1, q, hq, _⟩ | ⟨e1, _, h3'⟩
    · rw [e1]
      obtain ⟨rfl, rfl⟩ := List.cons.inj hq
      simp
    · rw [e1]
      constructor
      · intro h; cases h
      · rintro ⟨rfl, hr⟩
        cases r with
        | nil => simp at hr
        | cons d r => have : d = 120 := by simpa using hr
                      subst this
                      exact absurd rfl (h3' r)
  by_cases h48 : c = 48
  · subst h48
    refine Ev.yes rfl ?_
    by_cases hlt : p + 1 < l.length
    · refine Ev.yes (by omega) (Ev.yes (by omega) ?_)
      have hb : bt (bs l) ((p : Int) + 1) = ((l.getD (p + 1) 0).toNat : Int) := bt_bs l (p + 1)
      rw [hb]
      cases r with
      | nil => have := congrArg List.length h3; simp at this; omega
      | cons d q =>
        obtain ⟨k1, _, _⟩ := drop_cons h3
        rw [k1]
        by_cases hd : d = 120
        · subst hd
          have hp := pre.2 ⟨rfl, rfl⟩
          rw [if_pos hp]
          exact yes hp
        · have hp : Lib.hasPrefix (48 :: d :: q) [48, 120] = false := Bool.eq_false_iff.2 (fun e => hd (by simpa using (pre.1 e).2))
          have e120 : ((d.toNat : Int) == 120) = false := beq_eq_false_iff_ne.2 (fun e => hd (u8_eq (n := 120) e (by decide)))
          rw [hp, if_neg (by simp), e120]
          exact no hp
    · refine Ev.no (by omega) ?_
      have hr : r = [] := by
        have : l.drop (p + 1) = [] := List.drop_eq_nil_of_le (by omega)
        rw [← h3, this]
      subst hr
      have hp : Lib.hasPrefix [48] [48, 120] = false := rfl
      rw [hp, if_neg (by simp)]
      exact no hp
  · have hp : Lib.hasPrefix (c :: r) [48, 120] = false := Bool.eq_false_iff.2 (fun e => h48 (pre.1 e).1)
    rw [hp, if_neg (by simp)]
    exact Ev.no (fun e => h48 (u8_eq (n := 48) e (by decide))) (no hp)
end Go.Proofs.YtjolkombhdibcaaDoor.Sp
end
section
namespace Go.Proofs.YtjolkombhdibcaaDoor.Sp
open Go.RowKit Go.Proofs.YtjolkombhdibcaaDoorW.PrintWords Go.Proofs.YtjolkombhdibcaaDoorW.PrintMore Go.Proofs.YtjolkombhdibcaaDoor.Given Go.Proofs.YtjolkombhdibcaaDoor.Print
set_option linter.unusedVariables false
set_option linter.unusedSimpArgs false
theorem rt_fault (p : Nat) : Ev (fun k => ((casketref11_fault.f 61 (p : Int)).bind fun bt333 => (some ((bt333.1, bt333.2.1, bt333.2.2.1, bt333.2.2.2.1, bt333.2.2.2.2.1, bt333.2.2.2.2.2.1, bt333.2.2.2.2.2.2.1, bt333.2.2.2.2.2.2.2) : T8)))) (refT (bad 61) p) := by
  rw [refT_bad (by decide)]
  exact Ev.ret rfl
theorem rt_j1no (l : ByteArray) (p : Nat) (b : List Int) (x y : Int) : Ev (fun k => casketref11_text.j1 k l (p : Int) b x y true) (refT (bad 61) p) := by
  refine Ev.step (fun k => by rw [casketref11_text.j1]) ?_
  exact Ev.yes rfl (rt_fault p)
theorem rt_j3no (l : ByteArray) (p : Nat) (b : List Int) (x : Int) : Ev (fun k => casketref11_text.j3 k l (p : Int) b x false) (refT (bad 61) p) := by
  refine Ev.step (fun k => by rw [casketref11_text.j3]) ?_
  exact Ev.no (by simp) (rt_fault p)
theorem wrapP {a b : Nat} (h : a + b ≤ 2000000) : wrap64 ((a : Int) + (b : Int)) = ((a + b : Nat) : Int) := by
  rw [w64 (by omega) (by omega)]; omega
theorem hexJ_some {c : UInt8} {v : Nat} (h : hexV c = some v) : hexJ c = (v : Int) := by unfold hexJ; rw [h]
theorem hexJ_none {c : UInt8} (h : hexV c = none) : hexJ c = -1 := by unfold hexJ; rw [h]
theorem nib_add {x y : Nat} (hx : x < 16) (hy : y < 16) : (wrap64 ((wrap64 (16 * (x : Int))) + (y : Int))) % 256 = ((UInt8.ofNat (16 * x + y)).toNat : Int) := by
  rw [w64 (x := 16 * (x : Int)) (by omega) (by omega), w64 (by omega) (by omega)]
  have : (UInt8.ofNat (16 * x + y)).toNat = 16 * x + y := by
    simp
    omega
  rw [this]
  omega
set_option maxHeartbeats 1000000 in
theorem rtext_l0 (l : List UInt8) (hl : l.length ≤ 1000000) (p : Nat) : ∀ (m : Nat) (r b : List UInt8) (n : Nat), r.length ≤ m → l.drop (p + n) = r → p + n ≤ l.length → b.length ≤ n →
    Ev (fun k => casketref11_text.l0 k (bs l) (p : Int) (un b) ((p + n : Nat) : Int)) (refT (qS r b n) p) := by
  intro m
  induction m with
  | zero =>
    intro r b n hm h hn hb
    have : r = [] := List.eq_nil_of_length_eq_zero (by omega)
    subst this
    have : l.length ≤ p + n := by have := List.drop_eq_nil_iff.1 h; omega
    refine Ev.step (fun k => by rw [casketref11_text.l0]) ?_
    rw [qS_nil]
    exact Ev.no (by rw [bs_size]; omega) (rt_fault p)
  | succ m ih =>
    intro r b n hm h hn hb
    cases r with
    | nil =>
      have : l.length ≤ p + n := by have := List.drop_eq_nil_iff.1 h; omega
      refine Ev.step (fun k => by rw [casketref11_text.l0]) ?_
      rw [qS_nil]
      exact Ev.no (by rw [bs_size]; omega) (rt_fault p)
    | cons c r =>
      obtain ⟨h1, h2, h3⟩ := drop_cons h
      have hm' : r.length ≤ m := by simpa using hm
      have e1 := Aside0.mk (show wrap64 (((p + n : Nat) : Int) + 1) = ((p + (n + 1) : Nat) : Int) from wrapP (a := p + n) (b := 1) (by omega))
      have hun := Aside0.mk (show (un b).length < 140737488355328 by rw [un_len]; omega)
      refine Ev.step (fun k => by rw [casketref11_text.l0]) ?_
      rw [e1.out, bt_bs, h1, bs_size]
      refine Ev.yes (by omega) (Ev.yes (by omega) ?_)
      rw [qS_cons]
      by_cases h34 : c = 34
      · rw [if_pos h34]
        refine Ev.yes (by rw [h34]; decide) (Ev.ret ?_)
        rw [str_un]
        exact (refT_tok 6 b 0 0 (n + 1) p).symm
      · rw [if_neg h34]
        refine Ev.no (fun e => h34 (u8_eq (n := 34) e (by decide))) ?_
        by_cases h92 : c = 92
        · have hn92 : c.toNat = 92 := by rw [h92]; decide
          rw [if_pos h92]
          refine Ev.no (by omega) ?_
          rw [decide_eq_false (show ¬ ((c.toNat : Int) > 126) by omega)]
          refine Ev.step (fun k => by rw [casketref11_text.j1]) ?_
          refine Ev.no (by simp) (Ev.yes (by omega) ?_)
          rw [e1.out, bs_size]
          cases r with
          | nil =>
            have : l.length ≤ p + n + 1 := by have := List.drop_eq_nil_iff.1 h3; omega
            exact Ev.yes (by omega) (rt_fault p)
          | cons d r1 =>
            obtain ⟨g1, g2, g3⟩ := drop_cons h3
            have z3 : l.drop (p + (n + 2)) = r1 := g3
            have z2 : p + (n + 2) ≤ l.length := g2
            have hr1 : r1.length = l.length - (p + n + 2) := by rw [← g3, List.length_drop]
            have e3 := Aside0.mk (show wrap64 (((p + (n + 1) : Nat) : Int) + 1) = ((p + (n + 2) : Nat) : Int) from wrapP (a := p + (n + 1)) (b := 1) (by omega))
            have e4 := Aside0.mk (show wrap64 (((p + (n + 1) : Nat) : Int) + 2) = ((p + (n + 3) : Nat) : Int) from wrapP (a := p + (n + 1)) (b := 2) (by omega))
            have e5 := Aside0.mk (show wrap64 (((p + (n + 3) : Nat) : Int) + 1) = ((p + (n + 4) : Nat) : Int) from wrapP (a := p + (n + 3)) (b := 1) (by omega))
            have s1 : ((p + (n + 1) : Nat) : Int) < (l.length : Int) := by omega
            have s0 : (0 : Int) ≤ ((p + (n + 1) : Nat) : Int) := by omega
            have bd : bt (bs l) ((p + (n + 1) : Nat) : Int) = (d.toNat : Int) := by rw [bt_bs]; exact congrArg (fun z : UInt8 => (z.toNat : Int)) g1
            refine Ev.no (by omega) (Ev.yes s0 (Ev.yes s1 ?_))
            rw [bd]
            dsimp only
            have good : (d = 92 ∨ d = 34) → Ev (fun k => casketref11_text.j2 k (bs l) (p : Int) (un b) ((p + (n + 1) : Nat) : Int) true) (refT (qS r1 (b ++ [d]) (n + 2)) p) := by
              intro hd
              refine Ev.step (fun k => by rw [casketref11_text.j2]) ?_
              rw [bs_size]
              refine Ev.yes rfl (Ev.yes s0 (Ev.yes s1 (Ev.yes hun.out ?_)))
              rw [bd, un_snoc, e3.out]
              exact ih r1 (b ++ [d]) (n + 2) (Nat.le_of_succ_le hm') z3 z2 (snoc_le hb d 2 (by decide))
            by_cases hd92 : d = 92
            · rw [if_pos (.inl hd92)]
              exact Ev.yes (by rw [hd92]; decide) (good (.inl hd92))
            · refine Ev.no (fun e => hd92 (u8_eq (n := 92) e (by decide))) ?_
              by_cases hd34 : d = 34
              · rw [if_pos (.inr hd34)]
                have := good (.inr hd34)
                rw [show ((d.toNat : Int) == 34) = true by rw [hd34]; decide]
                exact this
              · rw [if_neg (fun e => e.elim hd92 hd34)]
                have e34 : ((d.toNat : Int) == 34) = false := beq_eq_false_iff_ne.2 (fun e => hd34 (u8_eq (n := 34) e (by decide)))
                rw [e34]
                refine Ev.step (fun k => by rw [casketref11_text.j2]) ?_
                rw [bs_size]
                refine Ev.no (by simp) (Ev.yes s0 (Ev.yes s1 ?_))
                rw [bd]
                by_cases h110 : d = 110
                · rw [if_pos h110]
                  refine Ev.yes (by rw [h110]; decide) (Ev.yes hun.out ?_)
                  rw [e3.out]
                  have := ih r1 (b ++ [10]) (n + 2) (Nat.le_of_succ_le hm') z3 z2 (snoc_le hb 10 2 (by decide))
                  rw [← un_snoc] at this
                  exact this
                · rw [if_neg h110]
                  refine Ev.no (fun e => h110 (u8_eq (n := 110) e (by decide))) ?_
                  by_cases h120 : d = 120
                  · rw [if_pos h120]
                    refine Ev.yes (by rw [h120]; decide) ?_
                    rw [e4.out, e3.out]
                    match r1, hr1, z3, hm', z2 with
                    | [], hr1, _, _, z2 =>
                      have : r1.length = 0 ∨ True := .inr trivial
                      simp at hr1
                      exact Ev.no (by omega) (rt_j3no _ _ _ _)
                    | [a], hr1, _, _, z2 =>
                      simp at hr1
                      exact Ev.no (by omega) (rt_j3no _ _ _ _)
                    | a :: a2 :: r2, hr1, z3, hm', z2 =>
                      have hlen : p + (n + 4) ≤ l.length := by
                        simp at hr1
                        omega
                      obtain ⟨k1, k2, k3⟩ := drop_cons z3
                      obtain ⟨k4, k5, k6⟩ := drop_cons k3
                      have ba : bt (bs l) ((p + (n + 2) : Nat) : Int) = (a.toNat : Int) := by rw [bt_bs]; exact congrArg (fun z : UInt8 => (z.toNat : Int)) k1
                      have ba2 : bt (bs l) ((p + (n + 3) : Nat) : Int) = (a2.toNat : Int) := by rw [bt_bs]; exact congrArg (fun z : UInt8 => (z.toNat : Int)) k4
                      have t0 : (0 : Int) ≤ ((p + (n + 2) : Nat) : Int) := by omega
                      have t1 : ((p + (n + 2) : Nat) : Int) < (l.length : Int) := by omega
                      have v0 : (0 : Int) ≤ ((p + (n + 3) : Nat) : Int) := by omega
                      have v1 : ((p + (n + 3) : Nat) : Int) < (l.length : Int) := by omega
                      refine Ev.yes v1 (Ev.yes t0 (Ev.yes t1 ?_))
                      rw [ba]
                      refine Ev.bind0 (rhex_f a) ?_
                      dsimp only
                      cases ha : hexV a with
                      | none => exact Ev.no (by rw [hexJ_none ha]; omega) (rt_j3no _ _ _ _)
                      | some x =>
                        refine Ev.yes (by rw [hexJ_some ha]; omega) (Ev.yes v0 ?_)
                        rw [ba2]
                        refine Ev.bind0 (rhex_f a2) ?_
                        cases ha2 : hexV a2 with
                        | none =>
                          rw [hexJ_none ha2, decide_eq_false (by omega)]
                          exact rt_j3no _ _ _ _
                        | some y =>
                          rw [hexJ_some ha2, decide_eq_true (by omega)]
                          refine Ev.step (fun k => by rw [casketref11_text.j3]) ?_
                          rw [e3.out, e4.out, bs_size, ba, ba2]
                          refine Ev.yes rfl (Ev.yes t0 (Ev.yes t1 (Ev.bind0 (rhex_f a) (Ev.yes v0 (Ev.yes v1 (Ev.bind0 (rhex_f a2) (Ev.yes hun.out ?_)))))))
                          rw [hexJ_some ha, hexJ_some ha2, nib_add (hexV_lt ha) (hexV_lt ha2), un_snoc, e5.out]
                          exact ih r2 _ (n + 4) (Nat.le_of_succ_le (Nat.le_of_succ_le (Nat.le_of_succ_le hm'))) k6 hlen (snoc_le hb _ 4 (by decide))
                  · rw [if_neg h120]
                    exact Ev.no (fun e => h120 (u8_eq (n := 120) e (by decide))) (rt_j3no _ _ _ _)
        · rw [if_neg h92]
          by_cases h32 : 32 ≤ c.toNat
          · refine Ev.no (by omega) ?_
            by_cases h126 : c.toNat ≤ 126
            · rw [if_pos ⟨h32, h126⟩, decide_eq_false (show ¬ ((c.toNat : Int) > 126) by omega)]
              refine Ev.step (fun k => by rw [casketref11_text.j1]) ?_
              refine Ev.no (by simp) (Ev.no (fun e => h92 (u8_eq (n := 92) e (by decide))) (Ev.yes hun.out ?_))
              rw [un_snoc, e1.out]
              exact ih r (b ++ [c]) (n + 1) hm' h3 h2 (snoc_le hb c 1 (by decide))
            · rw [if_neg (fun e => h126 e.2), decide_eq_true (show (c.toNat : Int) > 126 by omega)]
              exact rt_j1no _ _ _ _ _
          · rw [if_neg (fun e => h32 e.1)]
            exact Ev.yes (by omega) (rt_j1no _ _ _ _ _)
theorem rtext_ev (l : List UInt8) (hl : l.length ≤ 1000000) (p : Nat) (c : UInt8) (r : List UInt8) (h : l.drop p = c :: r) : Ev (fun k => casketref11_text.f k (bs l) (p : Int)) (refT (qS r [] 1) p) := by
  obtain ⟨h1, h2, h3⟩ := drop_cons h
  unfold casketref11_text.f
  have e1 : wrap64 ((p : Int) + 1) = ((p + 1 : Nat) : Int) := wrapP (a := p) (b := 1) (by omega)
  rw [e1]
  exact rtext_l0 l hl p _ r [] 1 (Nat.le_refl _) h3 h2 (by simp)
def marks2 : List (List UInt8) := [[61, 61], [33, 61], [60, 61], [62, 61], [60, 60], [62, 62], [47, 47], [46, 46]]
def marks1 : List (List UInt8) := [[43], [45], [42], [47], [37], [38], [124], [94], [126], [60], [62], [61], [40], [41], [123], [125], [91], [93], [44], [59], [58]]
theorem marks_split : marksL = marks2 ++ marks1 := rfl
theorem find_len (n : Nat) (l : List UInt8) : ∀ (ms : List (List UInt8)), (∀ m ∈ ms, m.length = n) → ms.find? (fun m => Lib.hasPrefix l m) = if n ≤ l.length ∧ l.take n ∈ ms then some (l.take n) else none
  | [], _ => by simp
  | m :: ms, h => by
    have hm := h m (by simp)
    have hp : Lib.hasPrefix l m = true ↔ (n ≤ l.length ∧ l.take n = m) := by
      unfold Lib.hasPrefix
      rw [List.isPrefixOf_iff_prefix, List.prefix_iff_eq_take, hm]
      constructor
      · intro e
        refine ⟨?_, e.symm⟩
        have := congrArg List.length e
        rw [hm, List.length_take] at this
        omega
      · rintro ⟨_, e⟩; exact e.symm
    rw [List.find?_cons]
    by_cases hc : Lib.hasPrefix l m = true
    · rw [hc]
      obtain ⟨h1, h2⟩ := hp.1 hc
      rw [if_pos ⟨h1, by rw [h2]; simp⟩, h2]
    · rw [Bool.eq_false_iff.2 hc]
      dsimp only
      rw [find_len n l ms (fun m hm => h m (by simp [hm]))]
      by_cases h1 : n ≤ l.length
      · have : l.take n ≠ m := fun e => hc (hp.2 ⟨h1, e⟩)
        simp [h1, this]
      · simp [h1]
theorem markT_eq (c : UInt8) (r : List UInt8) : markT (c :: r) =
    if 2 ≤ (c :: r).length ∧ (c :: r).take 2 ∈ marks2 then tok 3 ((c :: r).take 2) 0 0 2 else if [c] ∈ marks1 then tok 3 [c] 0 0 1 else bad 60 := by
  unfold markT markOf
  rw [marks_split, List.find?_append, find_len 2 _ marks2 (by decide), find_len 1 _ marks1 (by decide)]
  by_cases h2 : 2 ≤ (c :: r).length ∧ (c :: r).take 2 ∈ marks2
  · rw [if_pos h2, if_pos h2]
    dsimp only [Option.some_or]
    have : ((c :: r).take 2).length = 2 := by rw [List.length_take]; omega
    rw [this]; rfl
  · rw [if_neg h2, if_neg h2]
    have h1 : (c :: r).take 1 = [c] := rfl
    rw [h1]
    by_cases h3 : [c] ∈ marks1
    · rw [if_pos ⟨by simp, h3⟩, if_pos h3]; rfl
    · rw [if_neg (fun e => h3 e.2), if_neg h3]; rfl
theorem mem_marks (t : List UInt8) : t ∈ marksL ↔ (t ∈ marks2 ∨ t ∈ marks1) := by rw [marks_split]; exact List.mem_append
theorem len_marks2 : ∀ m ∈ marks2, m.length = 2 := by decide
theorem len_marks1 : ∀ m ∈ marks1, m.length = 1 := by decide
theorem rnext_marks (l : List UInt8) (hl : l.length ≤ 1000000) (p : Nat) (c : UInt8) (r : List UInt8) (h : l.drop p = c :: r) : Ev (fun k => casketref11_Next.l0 k (bs l) (p : Int) 2) (refT (markT (c :: r)) p) := by
  obtain ⟨h1, h2, h3⟩ := drop_cons h
  have hlen : (c :: r).length = l.length - p := by rw [← h, List.length_drop]
  have e2 : wrap64 ((p : Int) + 2) = ((p + 2 : Nat) : Int) := wrapP (a := p) (b := 2) (by omega)
  have e1 : wrap64 ((p : Int) + 1) = ((p + 1 : Nat) : Int) := wrapP (a := p) (b := 1) (by omega)
  rw [markT_eq]
  have one : ¬ (2 ≤ (c :: r).length ∧ (c :: r).take 2 ∈ marks2) → Ev (fun k => casketref11_Next.l0 k (bs l) (p : Int) (wrap64 (2 - 1))) (refT (if [c] ∈ marks1 then tok 3 [c] 0 0 1 else bad 60) p) := by
    intro hn
    rw [show wrap64 (2 - 1) = 1 from by rw [w64 (by omega) (by omega)]; rfl]
    refine Ev.step (fun k => by rw [casketref11_Next.l0]) ?_
    rw [e1, bs_size, Int.toNat_natCast, Int.toNat_natCast, cut_ext l (Nat.le_succ p), h, show p + 1 - p = 1 by omega]
    refine Ev.yes (by omega) (Ev.yes (by omega) (Ev.yes (by omega) (Ev.yes (by omega) ?_)))
    refine Ev.bind0 (rmark_f _) ?_
    have ht : (c :: r).take 1 = [c] := rfl
    rw [ht]
    by_cases hm : [c] ∈ marks1
    · rw [if_pos hm]
      refine Ev.yes (decide_eq_true ((mem_marks _).2 (.inr hm))) (Ev.ret ?_)
      exact (refT_tok 3 [c] 0 0 1 p).symm
    · rw [if_neg hm]
      refine Ev.no (by
        simp only [decide_eq_true_eq]
        intro e
        rcases (mem_marks _).1 e with e | e
        · have := len_marks2 _ e; simp at this
        · exact hm e) ?_
      rw [show wrap64 (1 - 1) = 0 from by rw [w64 (by omega) (by omega)]; rfl]
      refine Ev.step (fun k => by rw [casketref11_Next.l0]) ?_
      refine Ev.no (by omega) ?_
      rw [refT_bad (by decide)]
      exact Ev.ret rfl
  refine Ev.step (fun k => by rw [casketref11_Next.l0]) ?_
  rw [e2, bs_size]
  refine Ev.yes (by omega) ?_
  by_cases hl2 : p + 2 ≤ l.length
  · refine Ev.yes (by omega) (Ev.yes (by omega) (Ev.yes (by omega) ?_))
    rw [Int.toNat_natCast, Int.toNat_natCast, cut_ext l (by omega : p ≤ p + 2), h, show p + 2 - p = 2 by omega]
    refine Ev.bind0 (rmark_f _) ?_
    by_cases hm : (c :: r).take 2 ∈ marks2
    · rw [if_pos ⟨by omega, hm⟩]
      refine Ev.yes (decide_eq_true ((mem_marks _).2 (.inl hm))) (Ev.ret ?_)
      exact (refT_tok 3 _ 0 0 2 p).symm
    · rw [if_neg (fun e => hm e.2)]
      refine Ev.no (by
        simp only [decide_eq_true_eq]
        intro e
        rcases (mem_marks _).1 e with e | e
        · exact hm e
        · have := len_marks1 _ e; rw [List.length_take] at this; omega) ?_
      exact one (fun e => hm e.2)
  · rw [if_neg (fun e => by omega)]
    exact Ev.no (by omega) (one (fun e => by omega))
theorem rnext_ev (l : List UInt8) (hl : l.length ≤ 1000000) (p : Nat) (c : UInt8) (r : List UInt8) (h : l.drop p = c :: r) : Ev (fun k => casketref11_Next.f k (bs l) (p : Int)) (refT (nextT (c :: r)) p) := by
  obtain ⟨h1, h2, h3⟩ := drop_cons h
  have e := nextT_cons c r
  unfold casketref11_Next.f
  rw [bs_size, bt_bs, h1]
  refine Ev.no (by omega) (Ev.yes (by omega) (Ev.yes (by omega) (Ev.bind0 (starts_f c) ?_)))
  by_cases a1 : lowB c = true
  · rw [if_pos a1] at e
    rw [e]
    have := rname_ev l hl p (by omega)
    rw [h] at this
    exact Ev.yes a1 (Ev.bind this (Ev.ret rfl))
  · rw [if_neg a1] at e
    refine Ev.no a1 (Ev.bind0 (rdigit_f c) ?_)
    by_cases a3 : isDig c = true
    · refine Ev.yes a3 (Ev.bind (rnum_ev l hl p c r h a3) (Ev.ret ?_))
      rw [e]
      by_cases a2 : Lib.hasPrefix (c :: r) [48, 120] = true
      · rw [if_pos a2, if_pos a2]
      · rw [if_neg a2, if_neg a2, if_pos a3]
    · have a2 : ¬ Lib.hasPrefix (c :: r) [48, 120] = true := by
        intro hp
        rcases pre2 (c :: r) with ⟨_, q, hq, _⟩ | ⟨hn, _, _⟩
        · obtain ⟨rfl, _⟩ := List.cons.inj hq
          exact a3 (by decide)
        · rw [hn] at hp; cases hp
      rw [if_neg a2, if_neg a3] at e
      refine Ev.no a3 ?_
      by_cases a4 : c = 34
      · rw [if_pos a4] at e
        rw [e]
        exact Ev.yes (by rw [a4]; decide) (Ev.bind (rtext_ev l hl p c r h) (Ev.ret rfl))
      · rw [if_neg a4] at e
        rw [e]
        exact Ev.no (fun e => a4 (u8_eq (n := 34) e (by decide))) (rnext_marks l hl p c r h)
theorem rnext_end (l : List UInt8) : Ev (fun k => casketref11_Next.f k (bs l) ((l.length : Nat) : Int)) (7, (l.length : Int), bs [], 0, 0, (l.length : Int), 0, 0) := by
  unfold casketref11_Next.f
  exact Ev.yes (by rw [bs_size]) (Ev.ret rfl)
end Go.Proofs.YtjolkombhdibcaaDoor.Sp
end
section
namespace Go.Proofs.YtjolkombhdibcaaDoor.Print
open Go.RowKit Go.Proofs.YtjolkombhdibcaaDoor.Given Go.Proofs.YtjolkombhdibcaaDoorW.PrintWords Go.Proofs.YtjolkombhdibcaaDoorW.PrintLast Go.Proofs.YtjolkombhdibcaaDoorW.PrintMore
attribute [local go_sem] max2_int min2_int max_two min_two max_three min_three max_four min_four
set_option linter.unusedVariables false
set_option linter.unusedSimpArgs false
theorem eqA25 (d : Nat) (w : World) (x0 y0 : Int) (x1 y1 : Int) :
  (Op.equalIn (d + 2) 25 (.agg #[.int .i64 x0, .int .i64 x1]) (.agg #[.int .i64 y0, .int .i64 y1])).run Tryd.prog w = .ok (x0 == y0 && (x1 == y1)) w := by
 refine eqA_of Tryd.underlying25 (by kernel_rfl) ?_
 refine eqf_cons (by rfl) (by go_simp; rfl) (by go_simp; rfl) (by go_simp) ?_
 exact eqf_last (by rfl) (by go_simp; rfl) (by go_simp; rfl) (by go_simp)
end Go.Proofs.YtjolkombhdibcaaDoor.Print
end
section
namespace Go.Proofs.YtjolkombhdibcaaDoor.Print
open Go.RowKit Go.Proofs.YtjolkombhdibcaaDoor.Given Go.Proofs.YtjolkombhdibcaaDoorW.PrintWords Go.Proofs.YtjolkombhdibcaaDoorW.PrintLast Go.Proofs.YtjolkombhdibcaaDoorW.PrintMore
attribute [local go_sem] max2_int min2_int max_two min_two max_three min_three max_four min_four
set_option linter.unusedVariables false
set_option linter.unusedSimpArgs false
theorem eqA30 (d : Nat) (w : World) (x0 y0 : Int) (x1 y1 : Int) (x2 y2 : ByteArray) (x3 y3 : Int) (x4 y4 : Int) :
  (Op.equalIn (d + 2) 30 (.agg #[.int .i64 x0, .int .i64 x1, .string x2, .int .i64 x3, .int .u64 x4]) (.agg #[.int .i64 y0, .int .i64 y1, .string y2, .int .i64 y3, .int .u64 y4])).run Tryd.prog w = .ok (x0 == y0 && (x1 == y1 && (x2.toList == y2.toList && (x3 == y3 && (x4 == y4))))) w := by
 refine eqA_of Tryd.underlying30 (by kernel_rfl) ?_
 refine eqf_cons (by rfl) (by go_simp; rfl) (by go_simp; rfl) (by go_simp) ?_
 refine eqf_cons (by rfl) (by go_simp; rfl) (by go_simp; rfl) (by go_simp) ?_
 refine eqf_cons (by rfl) (by go_simp; rfl) (by go_simp; rfl) (by go_simp) ?_
 refine eqf_cons (by rfl) (by go_simp; rfl) (by go_simp; rfl) (by go_simp) ?_
 exact eqf_last (by rfl) (by go_simp; rfl) (by go_simp; rfl) (by go_simp)
end Go.Proofs.YtjolkombhdibcaaDoor.Print
end
