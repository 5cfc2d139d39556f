/- Packed by a program of this session (wip/tools/pack.py): the declarations of its texts that this claim needs. Not trusted: Lean checks it. -/
import Derived.Test.YtjolkombhdibcaaDoorLonD
section
namespace Go.Proofs.YtjolkombhdibcaaDoor.Print
open Go.RowKit Go.Proofs.YtjolkombhdibcaaDoor.Given Go.Proofs.YtjolkombhdibcaaDoorW.PrintWords Go.Proofs.YtjolkombhdibcaaDoorW.PrintLast Go.Proofs.YtjolkombhdibcaaDoorW.PrintMore
attribute [local go_sem] max2_int min2_int max_two min_two max_three min_three max_four min_four
set_option linter.unusedVariables false
set_option linter.unusedSimpArgs false
theorem x62_13 {p : Prop} (h : p := by first | rfl | (simp; done) | (simp [*]; done)) : p := h
theorem x62_12 {p : Prop} (h : p := by first | (with_reducible assumption) | assumption) : p := h
theorem x62_11 {p : Prop} (h : p := by have := HK1.out; first | omega | exact Nat.le_refl _) : p := h
theorem x62_10 {p : Prop} (h : p := by have := HK1.out; have := HJ14.out; first | omega | exact Nat.le_refl _) : p := h
theorem x62_9 {p : Prop} (h : p := by have := HK1.out; have := HJ14.out; have := HJ29.out; first | omega | exact Nat.le_refl _) : p := h
theorem x62_8 {p : Prop} (h : p := by first | rfl | (simp; done) | (simp only [← hji31] <;> (first | rfl | simp)) | (simp [*]; done)) : p := h
theorem x62_7 {p : Prop} (h : p := by first | rfl | (simp [errW_none, errW_some] <;> rfl) | (simp [*, errW_none, errW_some] <;> rfl)) : p := h
theorem x62_6 {p : Prop} (h : p := by (with_reducible repeat first | apply blk_drewN | apply blk_drew | apply blk_alloc); exact BK321.out) : p := h
theorem x62_5 {p : Prop} (h : p := by (with_reducible repeat first | apply blk_drewN | apply blk_drew | apply blk_alloc); exact BK320.out) : p := h
theorem x62_4 {p : Prop} (h : p := by (with_reducible repeat (first | apply Kd.R_alloc | apply Kd.R_drewN | apply Kd.R_drew)); exact HO_7.out) : p := h
theorem x62_3 {p : Prop} (h : p := by repeat (first | (with_reducible first | exact HB.out | apply below_alloc | apply pw_below_drewN | apply below_drew1) | exact HB.out)) : p := h
theorem x62_2 {p : Prop} (h : p := by (try simp only [List.map_toArray, List.map_cons, List.map_nil]); first | done | rfl | (simp only [List.length_drop, List.length_take]; rfl)) : p := h
theorem x62_1 {p : Prop} (h : p := by repeat (first | (with_reducible first | exact HB.out | apply below_alloc | apply pw_below_drewN | apply below_drew1 | refine below_set ?_ GE320.out) | exact HB.out)) : p := h
theorem x62_0 {p : Prop} (h : p := by repeat (first | (with_reducible first | exact HB.out | apply below_alloc | apply pw_below_drewN | apply below_drew1 | refine below_set ?_ GE320.out | refine below_set ?_ GE321.out) | exact HB.out)) : p := h
mutual
def casketref11_text.l0 : Nat → ByteArray → Int → List Int → Int → Option (Int × Int × ByteArray × Int × Int × Int × Int × Int)
 | 0, _, _, _, _ => none
 | k + 1, x0, x1, x7, x8 => if x8 < (x0.size : Int) then (if 0 ≤ x8 then (if (bt x0 x8) = 34 then (some (6, x1, strOfNums x7, 0, 0, wrap64 (x8 + 1), 0, 0)) else (if (bt x0 x8) < 32 then (casketref11_text.j1 k x0 x1 x7 x8 (bt x0 x8) true) else (casketref11_text.j1 k x0 x1 x7 x8 (bt x0 x8) (decide ((bt x0 x8) > 126))))) else (none)) else ((casketref11_fault.f 61 x1).bind fun bt325 => (some (bt325.1, bt325.2.1, bt325.2.2.1, bt325.2.2.2.1, bt325.2.2.2.2.1, bt325.2.2.2.2.2.1, bt325.2.2.2.2.2.2.1, bt325.2.2.2.2.2.2.2)))
def casketref11_text.j1 : Nat → ByteArray → Int → List Int → Int → Int → Bool → Option (Int × Int × ByteArray × Int × Int × Int × Int × Int)
 | 0, _, _, _, _, _, _ => none
 | k + 1, x0, x1, x7, x8, x9, x36 => if x36 = true then ((casketref11_fault.f 61 x1).bind fun bt333 => (some (bt333.1, bt333.2.1, bt333.2.2.1, bt333.2.2.2.1, bt333.2.2.2.2.1, bt333.2.2.2.2.2.1, bt333.2.2.2.2.2.2.1, bt333.2.2.2.2.2.2.2))) else (if x9 = 92 then (if (wrap64 (x8 + 1)) = (x0.size : Int) then ((casketref11_fault.f 61 x1).bind fun bt344 => (some (bt344.1, bt344.2.1, bt344.2.2.1, bt344.2.2.2.1, bt344.2.2.2.2.1, bt344.2.2.2.2.2.1, bt344.2.2.2.2.2.2.1, bt344.2.2.2.2.2.2.2))) else (if 0 ≤ (wrap64 (x8 + 1)) then (if (wrap64 (x8 + 1)) < (x0.size : Int) then (if (bt x0 (wrap64 (x8 + 1))) = 92 then (casketref11_text.j2 k x0 x1 x7 (wrap64 (x8 + 1)) true) else (casketref11_text.j2 k x0 x1 x7 (wrap64 (x8 + 1)) ((bt x0 (wrap64 (x8 + 1))) == 34))) else (none)) else (none))) else (if x7.length < 140737488355328 then (casketref11_text.l0 k x0 x1 (x7 ++ [x9]) (wrap64 (x8 + 1))) else (none)))
def casketref11_text.j2 : Nat → ByteArray → Int → List Int → Int → Bool → Option (Int × Int × ByteArray × Int × Int × Int × Int × Int)
 | 0, _, _, _, _, _ => none
 | k + 1, x0, x1, x7, x8, x58 => if x58 = true then (if 0 ≤ x8 then (if x8 < (x0.size : Int) then (if x7.length < 140737488355328 then (casketref11_text.l0 k x0 x1 (x7 ++ [bt x0 x8]) (wrap64 (x8 + 1))) else (none)) else (none)) else (none)) else (if 0 ≤ x8 then (if x8 < (x0.size : Int) then (if (bt x0 x8) = 110 then (if x7.length < 140737488355328 then (casketref11_text.l0 k x0 x1 (x7 ++ [10]) (wrap64 (x8 + 1))) else (none)) else (if (bt x0 x8) = 120 then (if (wrap64 (x8 + 2)) < (x0.size : Int) then (if 0 ≤ (wrap64 (x8 + 1)) then (if (wrap64 (x8 + 1)) < (x0.size : Int) then ((casketref11_hex.f (bt x0 (wrap64 (x8 + 1)))).bind fun t358 => (if t358 ≥ 0 then (if 0 ≤ (wrap64 (x8 + 2)) then ((casketref11_hex.f (bt x0 (wrap64 (x8 + 2)))).bind fun t359 => (casketref11_text.j3 k x0 x1 x7 x8 (decide (t359 ≥ 0)))) else (none)) else (casketref11_text.j3 k x0 x1 x7 x8 false))) else (none)) else (none)) else (casketref11_text.j3 k x0 x1 x7 x8 false)) else (casketref11_text.j3 k x0 x1 x7 x8 false))) else (none)) else (none))
def casketref11_text.j3 : Nat → ByteArray → Int → List Int → Int → Bool → Option (Int × Int × ByteArray × Int × Int × Int × Int × Int)
 | 0, _, _, _, _, _ => none
 | k + 1, x0, x1, x7, x8, x98 => if x98 = true then (if 0 ≤ (wrap64 (x8 + 1)) then (if (wrap64 (x8 + 1)) < (x0.size : Int) then ((casketref11_hex.f (bt x0 (wrap64 (x8 + 1)))).bind fun t360 => (if 0 ≤ (wrap64 (x8 + 2)) then (if (wrap64 (x8 + 2)) < (x0.size : Int) then ((casketref11_hex.f (bt x0 (wrap64 (x8 + 2)))).bind fun t361 => (if x7.length < 140737488355328 then (casketref11_text.l0 k x0 x1 (x7 ++ [(wrap64 ((wrap64 (16 * t360)) + t361)) % 256]) (wrap64 ((wrap64 (x8 + 2)) + 1))) else (none))) else (none)) else (none))) else (none)) else (none)) else ((casketref11_fault.f 61 x1).bind fun bt365 => (some (bt365.1, bt365.2.1, bt365.2.2.1, bt365.2.2.2.1, bt365.2.2.2.2.1, bt365.2.2.2.2.2.1, bt365.2.2.2.2.2.2.1, bt365.2.2.2.2.2.2.2)))
end
def casketref11_text.f (k : Nat) (a0 : ByteArray) (a1 : Int) : Option (Int × Int × ByteArray × Int × Int × Int × Int × Int) := casketref11_text.l0 k a0 a1 (([] : List Int)) (wrap64 (a1 + 1))
def casketref11_text.T18 : Bool × List (List Nat × List Nat) := (true, [([], []), ([], []), ([], []), ([2], [2]), ([1, 3], [1, 3]), ([4], [4]), ([5], [5]), ([], []), ([], []), ([8], [8]), ([7, 9], [7, 9]), ([10, 5], [10]), ([6, 11], [6, 11]), ([12], [12]), ([13], [13]), ([0, 14, 11], [0, 14]), ([15, 15, 0, 1, 2, 3, 4, 5, 6, 7, 8, 9, 10, 11, 12, 13, 14, 15], [0, 15])])
def casketref11_text.B18 : List Nat := [0, 0, 0, 4, 14, 30, 62, 0, 0, 256, 896, 1982, 4094, 8190, 16382, 32767, 65535]
theorem casketref11_text.tab18 : rtab .any (opsOf Tryd.f32 18) = casketref11_text.T18 := by kernel_rfl
theorem casketref11_text.bits18 : waitsOk casketref11_text.T18.2 casketref11_text.B18 = true := by kernel_rfl
set_option maxHeartbeats 8000000 in
set_option maxRecDepth 100000 in
theorem casketref11_text.calls (k : Nat) (a0 : ByteArray) (a1 : Int) (r1 : Int) (r2 : Int) (r3 : ByteArray) (r4 : Int) (r5 : Int) (r6 : Int) (r7 : Int) (r8 : Int) (w : World) (h : casketref11_text.f k a0 a1 = some (r1, r2, r3, r4, r5, r6, r7, r8)) :
  Calls Tryd.prog 32 #[.string a0, .int .i64 a1] w fun e w' => e = .returned (.tuple #[.agg #[.int .i64 r1, .int .i64 r2, .string r3, .int .i64 r4, .int .u64 r5], .int .i64 r6, .agg #[.int .i64 r7, .int .i64 r8]]) ∧ Below w.heap.size w w' := by
 have hu30 := Tryd.underlying30
 have hu25 := Tryd.underlying25
 have HB := Aside0.mk (Below.refl w.heap.size w)
 have H : (casketref11_text.l0 k a0 a1 (([] : List Int)) (wrap64 (a1 + 1))) = some (r1, r2, r3, r4, r5, r6, r7, r8) := h
 clear h
 obtain ⟨y322, hy322⟩ : ∃ y_ : List Int, y_ = (([] : List Int)) := ⟨_, rfl⟩
 replace H : (casketref11_text.l0 k a0 a1 y322 (wrap64 (a1 + 1))) = some (r1, r2, r3, r4, r5, r6, r7, r8) := by first | (rw [hy322]; with_reducible exact H) | (have H2_ := (Option.bind_some _ _).symm.trans H; rw [hy322]; with_reducible exact H2_) | (have H2_ := (Option.bind_some _ _).symm.trans H; with_reducible exact H2_) | with_reducible exact H | (rw [hy322]; exact H) | exact H
 have Ny322 := Aside0.mk hy322
 clear hy322
 have H' := Aside0.mk H
 clear H
 go_enter Tryd.func32, Tryd.ntmps32
 go_wp2_with (first | ((with_reducible refine gate_dst (N := 4) rfl ?_); (try (refine gate_guard (by rfl) ?_; dsimp only)); refine box_event ?hg (N := 4) ?hd (cs := #[.int .i64 0, .int .i64 0, .string (⟨#[]⟩ : ByteArray), .int .i64 0, .int .u64 0]) (t := 30) ?hr ?_; (case hd => rfl); (case hg => rfl); (case hr => first | (go_simp; done) | (go_simp; rfl)); intro gb320 hg w3 hbox hb; have n0_ := Aside0.mk (below_step x62_3 hb); have n1_ := Aside0.mk (hbox); have n2_ := Aside0.mk ((by rw [hg]; exact (below_size x62_3) : w.heap.size ≤ gb320)); have n3_ := Aside0.mk ((by rw [hg]; exact (below_size x62_3) : w.heap.size ≤ gb320)); clear HB; have HB := n0_; have BK320 := n1_; have GW320 := n2_; have GE320 := n3_; clear n0_ n1_ n2_ n3_; clear hb hbox hg) | ((with_reducible refine gate_dst (N := 6) rfl ?_); (try (refine gate_guard (by rfl) ?_; dsimp only)); refine box_event ?hg (N := 6) ?hd (cs := #[.int .i64 0, .int .i64 0]) (t := 25) ?hr ?_; (case hd => rfl); (case hg => rfl); (case hr => first | (go_simp; done) | (go_simp; rfl)); intro gb321 hg w4 hbox hb; have n0_ := Aside0.mk (blk_below (g := gb320) (o := .cells #[.int .i64 0, .int .i64 0, .string (⟨#[]⟩ : ByteArray), .int .i64 0, .int .u64 0] 30 (0, 0)) x62_5 hb); have n1_ := Aside0.mk (below_step x62_1 hb); have n2_ := Aside0.mk (hbox); have n3_ := Aside0.mk ((by rw [hg]; exact (below_size x62_1) : w.heap.size ≤ gb321)); have n4_ := Aside0.mk ((by rw [hg]; exact (below_size x62_1) : w.heap.size ≤ gb321)); have n5_ := Aside0.mk ((by rw [hg]; exact Nat.ne_of_lt (blk_lt (g := gb320) (o := .cells #[.int .i64 0, .int .i64 0, .string (⟨#[]⟩ : ByteArray), .int .i64 0, .int .u64 0] 30 (0, 0)) x62_5) : gb320 ≠ gb321)); have n6_ := Aside0.mk ((by rw [hg]; exact Nat.ne_of_gt (blk_lt (g := gb320) (o := .cells #[.int .i64 0, .int .i64 0, .string (⟨#[]⟩ : ByteArray), .int .i64 0, .int .u64 0] 30 (0, 0)) x62_5) : gb321 ≠ gb320)); clear BK320; clear HB; have BK320 := n0_; have HB := n1_; have BK321 := n2_; have GW321 := n3_; have GE321 := n4_; have NB320_321 := n5_; have NB321_320 := n6_; clear n0_ n1_ n2_ n3_ n4_ n5_ n6_; clear hb hbox hg) | ((with_reducible refine gate_dst (N := 10) rfl ?_); (try (refine gate_guard (by rfl) ?_; dsimp only)); refine Kd.R_lit (Kd.int .u8) _ 5 ?hg (N := 10) ?hd (xs := ([] : List Int)) (inner := []) (ok := fun _ => True) (okp := fun _ => True) ?hr ?hp (fun _ hk => hk) trivial (Below.refl _ _) (Nat.le_refl _) (by simp) ?_; (case hd => rfl); (case hg => rfl); (case hr => first | (go_simp; done) | (go_simp; rfl)); (case hp => exact (Reps.none _ _)); intro v323 w5 ho6 hb hg_ hnew_; clear hg_ hnew_; (first | rw [← Ny322.out] at ho6 | (simp only [Int.reduceToNat] at ho6; rw [← Ny322.out] at ho6)); have n0_ := Aside0.mk (Kd.R_lower ho6 (below_size x62_0)); have n1_ := Aside0.mk (blk_below (g := gb320) (o := .cells #[.int .i64 0, .int .i64 0, .string (⟨#[]⟩ : ByteArray), .int .i64 0, .int .u64 0] 30 (0, 0)) x62_5 hb); have n2_ := Aside0.mk (blk_below (g := gb321) (o := .cells #[.int .i64 0, .int .i64 0] 25 (0, 0)) x62_6 hb); have n3_ := Aside0.mk (below_step x62_0 hb); clear BK320; clear BK321; clear HB; have HO324 := n0_; have BK320 := n1_; have BK321 := n2_; have HB := n3_; clear n0_ n1_ n2_ n3_; clear hb ho6))
 go_loopg [7, 8] k (fun kq v7 v8 w' => ∃ (x7_1 : List Int) (x8_1 : Int) (x321000_1 : Int) (x321001_1 : Int) (x321002_1 : ByteArray) (x321003_1 : Int) (x321004_1 : Int) (x322000_1 : Int) (x322001_1 : Int), v8 = .int .i64 x8_1 ∧ Aside0 (casketref11_text.l0 kq a0 a1 x7_1 x8_1 = some (r1, r2, r3, r4, r5, r6, r7, r8)) ∧ Aside0 (kq ≤ k) ∧ Aside0 (Kd.R (Kd.int .u8) 5 w' w.heap.size (fun _ => True) v7 x7_1) ∧ Aside0 (w'.heap[gb320]? = some (.cells #[.int .i64 x321000_1, .int .i64 x321001_1, .string x321002_1, .int .i64 x321003_1, .int .u64 x321004_1] 30 (0, 0))) ∧ Aside0 (w'.heap[gb321]? = some (.cells #[.int .i64 x322000_1, .int .i64 x322001_1] 25 (0, 0))) ∧ Aside0 (Below w.heap.size w w'))
 case atStart => exact ⟨(y322), (wrap64 (a1 + 1)), (0), (0), ((⟨#[]⟩ : ByteArray)), (0), (0), (0), (0), x62_13, H', ⟨Nat.le_refl _⟩, ⟨by (with_reducible repeat (first | apply Kd.R_alloc | apply Kd.R_drewN | apply Kd.R_drew)); exact HO324.out⟩, ⟨x62_5⟩, ⟨x62_6⟩, ⟨x62_0⟩⟩
 case round =>
  clear H'
  obtain ⟨x7_1, x8_1, x321000_1, x321001_1, x321002_1, x321003_1, x321004_1, x322000_1, x322001_1, rfl, HA, HK1, HO_7, BK320, BK321, HB⟩ := hrel
  cases gk with
  | zero => exact absurd HA.out (by simp [casketref11_text.l0])
  | succ k1 =>
   have H := HA.out
   clear HA
   simp only [casketref11_text.l0] at H
   by_cases c7 : x8_1 < (a0.size : Int)
   ·rw [if_pos c7] at H
    have c7b0 : decide (x8_1 < (a0.size : Int)) = true := decide_eq_true c7
    clear c7
    by_cases c8 : 0 ≤ x8_1
    ·rw [if_pos c8] at H
     have c8b0 : decide (0 ≤ x8_1) = true := decide_eq_true c8
     clear c8
     by_cases c10 : (bt a0 x8_1) = 34
     ·rw [if_pos c10] at H
      have c10b0 : ((bt a0 x8_1) == 34) = true := beq_iff_eq.mpr c10
      have c10b1 : ((bt a0 x8_1) != 34) = false := bne_eq_false_iff_eq.mpr c10
      clear c10
      simp only [Option.some.injEq, Prod.mk.injEq] at H
      obtain ⟨rfl, rfl, rfl, rfl, rfl, rfl, rfl, rfl⟩ := H
      have p9 : 0 ≤ (x8_1 : Int) := of_decide_eq_true x62_12
      have q9 : x8_1 < (a0.size : Int) := of_decide_eq_true x62_12
      have hx9 := bt_at a0 x8_1
      replace p9 := eq_true p9
      replace q9 := eq_true q9
      have hcv11 := own_string (P := Tryd.prog) Tryd.underlying36 Tryd.underlying5 Tryd.underlying9 (Kd.own_of_R HO_7.out)
      have hnb12 := NB320_321.out
      have hnc12 := NB321_320.out
      have hcz13_0 : wr.cell? ⟨gb320, 0, none⟩ = some (.int .i64 x321000_1) := (blk_cell BK320.out 0).trans rfl
      have hcz13_1 : wr.cell? ⟨gb320, 1, none⟩ = some (.int .i64 x321001_1) := (blk_cell BK320.out 1).trans rfl
      have hcz13_2 : wr.cell? ⟨gb320, 2, none⟩ = some (.string x321002_1) := (blk_cell BK320.out 2).trans rfl
      have hcz13_3 : wr.cell? ⟨gb320, 3, none⟩ = some (.int .i64 x321003_1) := (blk_cell BK320.out 3).trans rfl
      have hcz13_4 : wr.cell? ⟨gb320, 4, none⟩ = some (.int .u64 x321004_1) := (blk_cell BK320.out 4).trans rfl
      have hfz13_0 := blk_frozen BK320.out 0
      have hfz13_1 := blk_frozen BK320.out 1
      have hfz13_2 := blk_frozen BK320.out 2
      have hfz13_3 := blk_frozen BK320.out 3
      have hfz13_4 := blk_frozen BK320.out 4
      have hcz14_0 : wr.cell? ⟨gb321, 0, none⟩ = some (.int .i64 x322000_1) := (blk_cell BK321.out 0).trans rfl
      have hcz14_1 : wr.cell? ⟨gb321, 1, none⟩ = some (.int .i64 x322001_1) := (blk_cell BK321.out 1).trans rfl
      have hfz14_0 := blk_frozen BK321.out 0
      have hfz14_1 := blk_frozen BK321.out 1
      go_wp2
      refine bodyPost_ret (results_list (rs := [.cell 4 30, .tmp 5, .cell 6 25]) rfl (by simp) (.cell gb320 30 #[.int .i64 6, .int .i64 a1, .string (strOfNums x7_1), .int .i64 0, .int .u64 0] (0, 0) _ rfl (by (with_reducible repeat first | apply blk_drewN | apply blk_drew | apply blk_alloc); refine blk_far ?_ NB320_321.out _; (with_reducible repeat first | apply blk_drewN | apply blk_drew | apply blk_alloc); refine blk_far ?_ NB320_321.out _; (with_reducible repeat first | apply blk_drewN | apply blk_drew | apply blk_alloc); refine blk_put (cs := #[.int .i64 6, .int .i64 a1, .string (strOfNums x7_1), .int .i64 0, .int .u64 x321004_1]) ?_ 4 _ rfl; (with_reducible repeat first | apply blk_drewN | apply blk_drew | apply blk_alloc); refine blk_put (cs := #[.int .i64 6, .int .i64 a1, .string (strOfNums x7_1), .int .i64 x321003_1, .int .u64 x321004_1]) ?_ 3 _ rfl; (with_reducible repeat first | apply blk_drewN | apply blk_drew | apply blk_alloc); refine blk_put (cs := #[.int .i64 6, .int .i64 a1, .string x321002_1, .int .i64 x321003_1, .int .u64 x321004_1]) ?_ 2 _ rfl; (with_reducible repeat first | apply blk_drewN | apply blk_drew | apply blk_alloc); refine blk_put (cs := #[.int .i64 6, .int .i64 x321001_1, .string x321002_1, .int .i64 x321003_1, .int .u64 x321004_1]) ?_ 1 _ rfl; (with_reducible repeat first | apply blk_drewN | apply blk_drew | apply blk_alloc); refine blk_put (cs := #[.int .i64 x321000_1, .int .i64 x321001_1, .string x321002_1, .int .i64 x321003_1, .int .u64 x321004_1]) ?_ 0 _ rfl; (with_reducible repeat first | apply blk_drewN | apply blk_drew | apply blk_alloc); exact BK320.out) Tryd.underlying30 rfl (by kernel_rfl) (.tmp (.cell gb321 25 #[.int .i64 0, .int .i64 0] (0, 0) _ rfl (by (with_reducible repeat first | apply blk_drewN | apply blk_drew | apply blk_alloc); refine blk_put (cs := #[.int .i64 0, .int .i64 x322001_1]) ?_ 1 _ rfl; (with_reducible repeat first | apply blk_drewN | apply blk_drew | apply blk_alloc); refine blk_put (cs := #[.int .i64 x322000_1, .int .i64 x322001_1]) ?_ 0 _ rfl; (with_reducible repeat first | apply blk_drewN | apply blk_drew | apply blk_alloc); refine blk_far ?_ NB321_320.out _; (with_reducible repeat first | apply blk_drewN | apply blk_drew | apply blk_alloc); refine blk_far ?_ NB321_320.out _; (with_reducible repeat first | apply blk_drewN | apply blk_drew | apply blk_alloc); refine blk_far ?_ NB321_320.out _; (with_reducible repeat first | apply blk_drewN | apply blk_drew | apply blk_alloc); refine blk_far ?_ NB321_320.out _; (with_reducible repeat first | apply blk_drewN | apply blk_drew | apply blk_alloc); refine blk_far ?_ NB321_320.out _; (with_reducible repeat first | apply blk_drewN | apply blk_drew | apply blk_alloc); exact BK321.out) Tryd.underlying25 rfl (by kernel_rfl) .nil)))) rfl ?_
      exact ⟨x62_7, x62_0⟩
     ·rw [if_neg c10] at H
      have c10b0 : ((bt a0 x8_1) == 34) = false := beq_eq_false_iff_ne.mpr c10
      have c10b1 : ((bt a0 x8_1) != 34) = true := bne_iff_ne.mpr c10
      have HC15 := Aside0.mk H
      clear H
      have p9 : 0 ≤ (x8_1 : Int) := of_decide_eq_true x62_12
      have q9 : x8_1 < (a0.size : Int) := of_decide_eq_true x62_12
      have hx9 := bt_at a0 x8_1
      replace p9 := eq_true p9
      replace q9 := eq_true q9
      go_upto_region 8 with (fail)
      go_cut [36] (fun v36 wc => ∃ (kq : Nat) (x36_14 : Bool), v36 = .bool x36_14 ∧ Aside0 (casketref11_text.j1 kq a0 a1 x7_1 x8_1 (bt a0 x8_1) x36_14 = some (r1, r2, r3, r4, r5, r6, r7, r8)) ∧ Aside0 (kq ≤ k1) ∧ Aside0 (Kd.R (Kd.int .u8) 5 wc w.heap.size (fun _ => True) u7 x7_1) ∧ Aside0 (wc.heap[gb320]? = some (.cells #[.int .i64 x321000_1, .int .i64 x321001_1, .string x321002_1, .int .i64 x321003_1, .int .u64 x321004_1] 30 (0, 0))) ∧ Aside0 (wc.heap[gb321]? = some (.cells #[.int .i64 x322000_1, .int .i64 x322001_1] 25 (0, 0))) ∧ Aside0 (Below w.heap.size w wc))
      case first =>
       have H := HC15.out
       clear HC15
       by_cases c16 : (bt a0 x8_1) < 32
       ·rw [if_pos c16] at H
        have c16b0 : decide ((bt a0 x8_1) < 32) = true := decide_eq_true c16
        clear c16
        (first | rw [c16b0] | (simp only [i64_w, i32_w]; rw [c16b0]) | skip)
        have H' := Aside0.mk H
        clear H
        go_wp2
        first
        | (go_meet; case rel => exact ⟨_, (true), x62_13, H', ⟨x62_11⟩, ⟨x62_4⟩, ⟨x62_5⟩, ⟨x62_6⟩, ⟨x62_0⟩⟩)
        | (go_meet; case rel => simp only []; exact ⟨_, (true), x62_13, H', ⟨x62_11⟩, ⟨x62_4⟩, ⟨x62_5⟩, ⟨x62_6⟩, ⟨x62_0⟩⟩)
        | ((try subst hji31); (try subst hji38); (try subst hji44); (try subst hji55); (try subst hji61); (try subst hji66); (try subst hji71); go_meet; case rel => exact ⟨_, (true), x62_13, H', ⟨x62_11⟩, ⟨x62_4⟩, ⟨x62_5⟩, ⟨x62_6⟩, ⟨x62_0⟩⟩)
       ·rw [if_neg c16] at H
        have c16b0 : decide ((bt a0 x8_1) < 32) = false := decide_eq_false c16
        clear c16
        (first | rw [c16b0] | (simp only [i64_w, i32_w]; rw [c16b0]) | skip)
        have H' := Aside0.mk H
        clear H
        go_wp2
        first
        | (go_meet; case rel => exact ⟨_, (decide ((bt a0 x8_1) > 126)), x62_13, H', ⟨x62_11⟩, ⟨x62_4⟩, ⟨x62_5⟩, ⟨x62_6⟩, ⟨x62_0⟩⟩)
        | (go_meet; case rel => simp only []; exact ⟨_, (decide ((bt a0 x8_1) > 126)), x62_13, H', ⟨x62_11⟩, ⟨x62_4⟩, ⟨x62_5⟩, ⟨x62_6⟩, ⟨x62_0⟩⟩)
        | ((try subst hji31); (try subst hji38); (try subst hji44); (try subst hji55); (try subst hji61); (try subst hji66); (try subst hji71); go_meet; case rel => exact ⟨_, (decide ((bt a0 x8_1) > 126)), x62_13, H', ⟨x62_11⟩, ⟨x62_4⟩, ⟨x62_5⟩, ⟨x62_6⟩, ⟨x62_0⟩⟩)
      case rest =>
       clear HC15
       obtain ⟨kq, x36_14, rfl, HA, HJ14, HO_7, BK320, BK321, HB⟩ := hcut
       cases kq with
       | zero => exact absurd HA.out (by simp [casketref11_text.j1])
       | succ kj14 =>
        have H := HA.out
        clear HA
        simp only [casketref11_text.j1] at H
        by_cases c17 : x36_14 = true
        ·subst c17
         have H1 : ((casketref11_fault.f 61 a1).bind fun bt333 => (some (bt333.1, bt333.2.1, bt333.2.2.1, bt333.2.2.2.1, bt333.2.2.2.2.1, bt333.2.2.2.2.2.1, bt333.2.2.2.2.2.2.1, bt333.2.2.2.2.2.2.2))) = some (r1, r2, r3, r4, r5, r6, r7, r8) := by rw [if_pos rfl] at H; exact H
         clear H
         have H := H1
         clear H1
         replace H := Option.bind_eq_some_iff.mp H
         obtain ⟨⟨t333, t334, t335, t336, t337, t338, t339, t340⟩, A180, H⟩ := H
         replace H : (some (t333, t334, t335, t336, t337, t338, t339, t340)) = some (r1, r2, r3, r4, r5, r6, r7, r8) := H
         have A18 := Aside0.mk A180
         clear A180
         simp only [Option.some.injEq, Prod.mk.injEq] at H
         obtain ⟨rfl, rfl, rfl, rfl, rfl, rfl, rfl, rfl⟩ := H
         go_wp2_with (first | ((with_reducible refine gate_callee (f := 34) rfl ?_); refine goesL_ (some 118) rfl rfl Tryd.func34 (by kernel_rfl) rfl #[.int .i64 61, .int .i64 a1] rfl x62_2 ?_; (with_reducible refine (casketref11_fault.calls 61 a1 t333 t334 t335 t336 t337 t338 t339 t340 _ A18.out).mono ?_); rintro e w19 ⟨rfl, hb⟩; refine ⟨_, rfl, ?_⟩; have n0_ := Aside0.mk (Kd.R_below x62_4 hb); have n1_ := Aside0.mk (blk_below (g := gb320) (o := .cells #[.int .i64 x321000_1, .int .i64 x321001_1, .string x321002_1, .int .i64 x321003_1, .int .u64 x321004_1] 30 (0, 0)) x62_5 hb); have n2_ := Aside0.mk (blk_below (g := gb321) (o := .cells #[.int .i64 x322000_1, .int .i64 x322001_1] 25 (0, 0)) x62_6 hb); have n3_ := Aside0.mk (below_step x62_0 hb); clear HO_7; clear BK320; clear BK321; clear HB; have HO_7 := n0_; have BK320 := n1_; have BK321 := n2_; have HB := n3_; clear n0_ n1_ n2_ n3_; have hnb20 := NB320_321.out; have hnc20 := NB321_320.out; have hcz21_0 : w19.cell? ⟨gb320, 0, none⟩ = some (.int .i64 x321000_1) := (blk_cell BK320.out 0).trans rfl; have hcz21_1 : w19.cell? ⟨gb320, 1, none⟩ = some (.int .i64 x321001_1) := (blk_cell BK320.out 1).trans rfl; have hcz21_2 : w19.cell? ⟨gb320, 2, none⟩ = some (.string x321002_1) := (blk_cell BK320.out 2).trans rfl; have hcz21_3 : w19.cell? ⟨gb320, 3, none⟩ = some (.int .i64 x321003_1) := (blk_cell BK320.out 3).trans rfl; have hcz21_4 : w19.cell? ⟨gb320, 4, none⟩ = some (.int .u64 x321004_1) := (blk_cell BK320.out 4).trans rfl; have hfz21_0 := blk_frozen BK320.out 0; have hfz21_1 := blk_frozen BK320.out 1; have hfz21_2 := blk_frozen BK320.out 2; have hfz21_3 := blk_frozen BK320.out 3; have hfz21_4 := blk_frozen BK320.out 4; have hcz22_0 : w19.cell? ⟨gb321, 0, none⟩ = some (.int .i64 x322000_1) := (blk_cell BK321.out 0).trans rfl; have hcz22_1 : w19.cell? ⟨gb321, 1, none⟩ = some (.int .i64 x322001_1) := (blk_cell BK321.out 1).trans rfl; have hfz22_0 := blk_frozen BK321.out 0; have hfz22_1 := blk_frozen BK321.out 1))
         refine bodyPost_ret (results_list (rs := [.cell 4 30, .tmp 5, .cell 6 25]) rfl (by simp) (.cell gb320 30 #[.int .i64 t333, .int .i64 t334, .string t335, .int .i64 t336, .int .u64 t337] (0, 0) _ rfl (by (with_reducible repeat first | apply blk_drewN | apply blk_drew | apply blk_alloc); refine blk_far ?_ NB320_321.out _; (with_reducible repeat first | apply blk_drewN | apply blk_drew | apply blk_alloc); refine blk_far ?_ NB320_321.out _; (with_reducible repeat first | apply blk_drewN | apply blk_drew | apply blk_alloc); refine blk_put (cs := #[.int .i64 t333, .int .i64 t334, .string t335, .int .i64 t336, .int .u64 x321004_1]) ?_ 4 _ rfl; (with_reducible repeat first | apply blk_drewN | apply blk_drew | apply blk_alloc); refine blk_put (cs := #[.int .i64 t333, .int .i64 t334, .string t335, .int .i64 x321003_1, .int .u64 x321004_1]) ?_ 3 _ rfl; (with_reducible repeat first | apply blk_drewN | apply blk_drew | apply blk_alloc); refine blk_put (cs := #[.int .i64 t333, .int .i64 t334, .string x321002_1, .int .i64 x321003_1, .int .u64 x321004_1]) ?_ 2 _ rfl; (with_reducible repeat first | apply blk_drewN | apply blk_drew | apply blk_alloc); refine blk_put (cs := #[.int .i64 t333, .int .i64 x321001_1, .string x321002_1, .int .i64 x321003_1, .int .u64 x321004_1]) ?_ 1 _ rfl; (with_reducible repeat first | apply blk_drewN | apply blk_drew | apply blk_alloc); refine blk_put (cs := #[.int .i64 x321000_1, .int .i64 x321001_1, .string x321002_1, .int .i64 x321003_1, .int .u64 x321004_1]) ?_ 0 _ rfl; (with_reducible repeat first | apply blk_drewN | apply blk_drew | apply blk_alloc); exact BK320.out) Tryd.underlying30 rfl (by kernel_rfl) (.tmp (.cell gb321 25 #[.int .i64 t339, .int .i64 t340] (0, 0) _ rfl (by (with_reducible repeat first | apply blk_drewN | apply blk_drew | apply blk_alloc); refine blk_put (cs := #[.int .i64 t339, .int .i64 x322001_1]) ?_ 1 _ rfl; (with_reducible repeat first | apply blk_drewN | apply blk_drew | apply blk_alloc); refine blk_put (cs := #[.int .i64 x322000_1, .int .i64 x322001_1]) ?_ 0 _ rfl; (with_reducible repeat first | apply blk_drewN | apply blk_drew | apply blk_alloc); refine blk_far ?_ NB321_320.out _; (with_reducible repeat first | apply blk_drewN | apply blk_drew | apply blk_alloc); refine blk_far ?_ NB321_320.out _; (with_reducible repeat first | apply blk_drewN | apply blk_drew | apply blk_alloc); refine blk_far ?_ NB321_320.out _; (with_reducible repeat first | apply blk_drewN | apply blk_drew | apply blk_alloc); refine blk_far ?_ NB321_320.out _; (with_reducible repeat first | apply blk_drewN | apply blk_drew | apply blk_alloc); refine blk_far ?_ NB321_320.out _; (with_reducible repeat first | apply blk_drewN | apply blk_drew | apply blk_alloc); exact BK321.out) Tryd.underlying25 rfl (by kernel_rfl) .nil)))) rfl ?_
         exact ⟨x62_7, x62_0⟩
        ·replace c17 := Bool.eq_false_iff.mpr c17
         subst c17
         have H1 : (if (bt a0 x8_1) = 92 then (if (wrap64 (x8_1 + 1)) = (a0.size : Int) then ((casketref11_fault.f 61 a1).bind fun bt344 => (some (bt344.1, bt344.2.1, bt344.2.2.1, bt344.2.2.2.1, bt344.2.2.2.2.1, bt344.2.2.2.2.2.1, bt344.2.2.2.2.2.2.1, bt344.2.2.2.2.2.2.2))) else (if 0 ≤ (wrap64 (x8_1 + 1)) then (if (wrap64 (x8_1 + 1)) < (a0.size : Int) then (if (bt a0 (wrap64 (x8_1 + 1))) = 92 then (casketref11_text.j2 kj14 a0 a1 x7_1 (wrap64 (x8_1 + 1)) true) else (casketref11_text.j2 kj14 a0 a1 x7_1 (wrap64 (x8_1 + 1)) ((bt a0 (wrap64 (x8_1 + 1))) == 34))) else (none)) else (none))) else (if x7_1.length < 140737488355328 then (casketref11_text.l0 kj14 a0 a1 (x7_1 ++ [(bt a0 x8_1)]) (wrap64 (x8_1 + 1))) else (none))) = some (r1, r2, r3, r4, r5, r6, r7, r8) := by rw [if_neg (show ¬ (false = true) by decide)] at H; exact H
         clear H
         have H := H1
         clear H1
         by_cases c23 : (bt a0 x8_1) = 92
         ·rw [if_pos c23] at H
          have c23b0 : ((bt a0 x8_1) == 92) = true := beq_iff_eq.mpr c23
          have c23b1 : ((bt a0 x8_1) != 92) = false := bne_eq_false_iff_eq.mpr c23
          clear c23
          by_cases c24 : (wrap64 (x8_1 + 1)) = (a0.size : Int)
          ·rw [if_pos c24] at H
           have c24b0 : ((wrap64 (x8_1 + 1)) == (a0.size : Int)) = true := beq_iff_eq.mpr c24
           have c24b1 : ((wrap64 (x8_1 + 1)) != (a0.size : Int)) = false := bne_eq_false_iff_eq.mpr c24
           clear c24
           replace H := Option.bind_eq_some_iff.mp H
           obtain ⟨⟨t344, t345, t346, t347, t348, t349, t350, t351⟩, A250, H⟩ := H
           replace H : (some (t344, t345, t346, t347, t348, t349, t350, t351)) = some (r1, r2, r3, r4, r5, r6, r7, r8) := H
           have A25 := Aside0.mk A250
           clear A250
           simp only [Option.some.injEq, Prod.mk.injEq] at H
           obtain ⟨rfl, rfl, rfl, rfl, rfl, rfl, rfl, rfl⟩ := H
           go_wp2_with (first | ((with_reducible refine gate_callee (f := 34) rfl ?_); refine goesL_ (some 118) rfl rfl Tryd.func34 (by kernel_rfl) rfl #[.int .i64 61, .int .i64 a1] rfl x62_2 ?_; (with_reducible refine (casketref11_fault.calls 61 a1 t344 t345 t346 t347 t348 t349 t350 t351 _ A25.out).mono ?_); rintro e w26 ⟨rfl, hb⟩; refine ⟨_, rfl, ?_⟩; have n0_ := Aside0.mk (Kd.R_below x62_4 hb); have n1_ := Aside0.mk (blk_below (g := gb320) (o := .cells #[.int .i64 x321000_1, .int .i64 x321001_1, .string x321002_1, .int .i64 x321003_1, .int .u64 x321004_1] 30 (0, 0)) x62_5 hb); have n2_ := Aside0.mk (blk_below (g := gb321) (o := .cells #[.int .i64 x322000_1, .int .i64 x322001_1] 25 (0, 0)) x62_6 hb); have n3_ := Aside0.mk (below_step x62_0 hb); clear HO_7; clear BK320; clear BK321; clear HB; have HO_7 := n0_; have BK320 := n1_; have BK321 := n2_; have HB := n3_; clear n0_ n1_ n2_ n3_; have hnb27 := NB320_321.out; have hnc27 := NB321_320.out; have hcz28_0 : w26.cell? ⟨gb320, 0, none⟩ = some (.int .i64 x321000_1) := (blk_cell BK320.out 0).trans rfl; have hcz28_1 : w26.cell? ⟨gb320, 1, none⟩ = some (.int .i64 x321001_1) := (blk_cell BK320.out 1).trans rfl; have hcz28_2 : w26.cell? ⟨gb320, 2, none⟩ = some (.string x321002_1) := (blk_cell BK320.out 2).trans rfl; have hcz28_3 : w26.cell? ⟨gb320, 3, none⟩ = some (.int .i64 x321003_1) := (blk_cell BK320.out 3).trans rfl; have hcz28_4 : w26.cell? ⟨gb320, 4, none⟩ = some (.int .u64 x321004_1) := (blk_cell BK320.out 4).trans rfl; have hfz28_0 := blk_frozen BK320.out 0; have hfz28_1 := blk_frozen BK320.out 1; have hfz28_2 := blk_frozen BK320.out 2; have hfz28_3 := blk_frozen BK320.out 3; have hfz28_4 := blk_frozen BK320.out 4; have hcz29_0 : w26.cell? ⟨gb321, 0, none⟩ = some (.int .i64 x322000_1) := (blk_cell BK321.out 0).trans rfl; have hcz29_1 : w26.cell? ⟨gb321, 1, none⟩ = some (.int .i64 x322001_1) := (blk_cell BK321.out 1).trans rfl; have hfz29_0 := blk_frozen BK321.out 0; have hfz29_1 := blk_frozen BK321.out 1))
           refine bodyPost_ret (results_list (rs := [.cell 4 30, .tmp 5, .cell 6 25]) rfl (by simp) (.cell gb320 30 #[.int .i64 t344, .int .i64 t345, .string t346, .int .i64 t347, .int .u64 t348] (0, 0) _ rfl (by (with_reducible repeat first | apply blk_drewN | apply blk_drew | apply blk_alloc); refine blk_far ?_ NB320_321.out _; (with_reducible repeat first | apply blk_drewN | apply blk_drew | apply blk_alloc); refine blk_far ?_ NB320_321.out _; (with_reducible repeat first | apply blk_drewN | apply blk_drew | apply blk_alloc); refine blk_put (cs := #[.int .i64 t344, .int .i64 t345, .string t346, .int .i64 t347, .int .u64 x321004_1]) ?_ 4 _ rfl; (with_reducible repeat first | apply blk_drewN | apply blk_drew | apply blk_alloc); refine blk_put (cs := #[.int .i64 t344, .int .i64 t345, .string t346, .int .i64 x321003_1, .int .u64 x321004_1]) ?_ 3 _ rfl; (with_reducible repeat first | apply blk_drewN | apply blk_drew | apply blk_alloc); refine blk_put (cs := #[.int .i64 t344, .int .i64 t345, .string x321002_1, .int .i64 x321003_1, .int .u64 x321004_1]) ?_ 2 _ rfl; (with_reducible repeat first | apply blk_drewN | apply blk_drew | apply blk_alloc); refine blk_put (cs := #[.int .i64 t344, .int .i64 x321001_1, .string x321002_1, .int .i64 x321003_1, .int .u64 x321004_1]) ?_ 1 _ rfl; (with_reducible repeat first | apply blk_drewN | apply blk_drew | apply blk_alloc); refine blk_put (cs := #[.int .i64 x321000_1, .int .i64 x321001_1, .string x321002_1, .int .i64 x321003_1, .int .u64 x321004_1]) ?_ 0 _ rfl; (with_reducible repeat first | apply blk_drewN | apply blk_drew | apply blk_alloc); exact BK320.out) Tryd.underlying30 rfl (by kernel_rfl) (.tmp (.cell gb321 25 #[.int .i64 t350, .int .i64 t351] (0, 0) _ rfl (by (with_reducible repeat first | apply blk_drewN | apply blk_drew | apply blk_alloc); refine blk_put (cs := #[.int .i64 t350, .int .i64 x322001_1]) ?_ 1 _ rfl; (with_reducible repeat first | apply blk_drewN | apply blk_drew | apply blk_alloc); refine blk_put (cs := #[.int .i64 x322000_1, .int .i64 x322001_1]) ?_ 0 _ rfl; (with_reducible repeat first | apply blk_drewN | apply blk_drew | apply blk_alloc); refine blk_far ?_ NB321_320.out _; (with_reducible repeat first | apply blk_drewN | apply blk_drew | apply blk_alloc); refine blk_far ?_ NB321_320.out _; (with_reducible repeat first | apply blk_drewN | apply blk_drew | apply blk_alloc); refine blk_far ?_ NB321_320.out _; (with_reducible repeat first | apply blk_drewN | apply blk_drew | apply blk_alloc); refine blk_far ?_ NB321_320.out _; (with_reducible repeat first | apply blk_drewN | apply blk_drew | apply blk_alloc); refine blk_far ?_ NB321_320.out _; (with_reducible repeat first | apply blk_drewN | apply blk_drew | apply blk_alloc); exact BK321.out) Tryd.underlying25 rfl (by kernel_rfl) .nil)))) rfl ?_
           exact ⟨x62_7, x62_0⟩
          ·rw [if_neg c24] at H
           have c24b0 : ((wrap64 (x8_1 + 1)) == (a0.size : Int)) = false := beq_eq_false_iff_ne.mpr c24
           have c24b1 : ((wrap64 (x8_1 + 1)) != (a0.size : Int)) = true := bne_iff_ne.mpr c24
           have HC30 := Aside0.mk H
           clear H
           go_upto_region 13 with (fail)
           go_cut [58] (fun v58 wc => ∃ (kq : Nat) (x58_29 : Bool), v58 = .bool x58_29 ∧ Aside0 (casketref11_text.j2 kq a0 a1 x7_1 (wrap64 (x8_1 + 1)) x58_29 = some (r1, r2, r3, r4, r5, r6, r7, r8)) ∧ Aside0 (kq ≤ kj14) ∧ Aside0 (Kd.R (Kd.int .u8) 5 wc w.heap.size (fun _ => True) u7 x7_1) ∧ Aside0 (wc.heap[gb320]? = some (.cells #[.int .i64 x321000_1, .int .i64 x321001_1, .string x321002_1, .int .i64 x321003_1, .int .u64 x321004_1] 30 (0, 0))) ∧ Aside0 (wc.heap[gb321]? = some (.cells #[.int .i64 x322000_1, .int .i64 x322001_1] 25 (0, 0))) ∧ Aside0 (Below w.heap.size w wc))
           case first =>
            have H := HC30.out
            clear HC30
            obtain ⟨ji31, hji31⟩ : ∃ j_ : Int, (wrap64 (x8_1 + 1)) = j_ := ⟨_, rfl⟩
            replace H : (if 0 ≤ (ji31) then (if (ji31) < (a0.size : Int) then (if (bt a0 (ji31)) = 92 then (casketref11_text.j2 kj14 a0 a1 x7_1 ji31 true) else (casketref11_text.j2 kj14 a0 a1 x7_1 ji31 ((bt a0 (ji31)) == 34))) else (none)) else (none)) = some (r1, r2, r3, r4, r5, r6, r7, r8) := by first | (rw [hji31] at H; exact H) | (simp only [hji31] at H ⊢; exact H)
            (try rw [hji31] at c24b0)
            (try rw [hji31] at c24b1)
            have hji31w : (IntKind.i64.wrap (x8_1 + 1)) = ji31 := (i64_w _).trans hji31
            by_cases c32 : 0 ≤ (ji31)
            ·rw [if_pos c32] at H
             have c32b0 : decide (0 ≤ (ji31)) = true := decide_eq_true c32
             clear c32
             (first | rw [c32b0] | (simp only [i64_w, i32_w]; rw [c32b0]) | skip)
             by_cases c33 : (ji31) < (a0.size : Int)
             ·rw [if_pos c33] at H
              have c33b0 : decide ((ji31) < (a0.size : Int)) = true := decide_eq_true c33
              clear c33
              by_cases c35 : (bt a0 (ji31)) = 92
              ·rw [if_pos c35] at H
               have c35b0 : ((bt a0 (ji31)) == 92) = true := beq_iff_eq.mpr c35
               have c35b1 : ((bt a0 (ji31)) != 92) = false := bne_eq_false_iff_eq.mpr c35
               clear c35
               have H' := Aside0.mk H
               clear H
               have p34 : 0 ≤ ((ji31) : Int) := of_decide_eq_true x62_12
               have q34 : (ji31) < (a0.size : Int) := of_decide_eq_true x62_12
               have hx34 := bt_at a0 (ji31)
               replace p34 := eq_true p34
               replace q34 := eq_true q34
               go_wp2
               first
               | (go_meet; case rel => exact ⟨_, (true), x62_13, H', ⟨x62_10⟩, ⟨x62_4⟩, ⟨x62_5⟩, ⟨x62_6⟩, ⟨x62_0⟩⟩)
               | (go_meet; case rel => simp only [hji31]; exact ⟨_, (true), x62_13, H', ⟨x62_10⟩, ⟨x62_4⟩, ⟨x62_5⟩, ⟨x62_6⟩, ⟨x62_0⟩⟩)
               | ((try subst hji31); (try subst hji38); (try subst hji44); (try subst hji55); (try subst hji61); (try subst hji66); (try subst hji71); go_meet; case rel => exact ⟨_, (true), x62_13, H', ⟨x62_10⟩, ⟨x62_4⟩, ⟨x62_5⟩, ⟨x62_6⟩, ⟨x62_0⟩⟩)
              ·rw [if_neg c35] at H
               have c35b0 : ((bt a0 (ji31)) == 92) = false := beq_eq_false_iff_ne.mpr c35
               have c35b1 : ((bt a0 (ji31)) != 92) = true := bne_iff_ne.mpr c35
               have H' := Aside0.mk H
               clear H
               have p34 : 0 ≤ ((ji31) : Int) := of_decide_eq_true x62_12
               have q34 : (ji31) < (a0.size : Int) := of_decide_eq_true x62_12
               have hx34 := bt_at a0 (ji31)
               replace p34 := eq_true p34
               replace q34 := eq_true q34
               have p36 : 0 ≤ ((ji31) : Int) := of_decide_eq_true x62_12
               have q36 : (ji31) < (a0.size : Int) := of_decide_eq_true x62_12
               have hx36 := bt_at a0 (ji31)
               replace p36 := eq_true p36
               replace q36 := eq_true q36
               go_wp2
               first
               | (go_meet; case rel => exact ⟨_, (((bt a0 (ji31)) == 34)), x62_8, H', ⟨x62_10⟩, ⟨x62_4⟩, ⟨x62_5⟩, ⟨x62_6⟩, ⟨x62_0⟩⟩)
               | (go_meet; case rel => simp only [hji31]; exact ⟨_, (((bt a0 (ji31)) == 34)), x62_8, H', ⟨x62_10⟩, ⟨x62_4⟩, ⟨x62_5⟩, ⟨x62_6⟩, ⟨x62_0⟩⟩)
               | ((try subst hji31); (try subst hji38); (try subst hji44); (try subst hji55); (try subst hji61); (try subst hji66); (try subst hji71); go_meet; case rel => exact ⟨_, (((bt a0 ((wrap64 (x8_1 + 1)))) == 34)), x62_8, H', ⟨x62_10⟩, ⟨x62_4⟩, ⟨x62_5⟩, ⟨x62_6⟩, ⟨x62_0⟩⟩)
             ·rw [if_neg c33] at H
              exact absurd H (by simp)
            ·rw [if_neg c32] at H
             exact absurd H (by simp)
           case rest =>
            clear HC30
            obtain ⟨kq, x58_29, rfl, HA, HJ29, HO_7, BK320, BK321, HB⟩ := hcut
            cases kq with
            | zero => exact absurd HA.out (by simp [casketref11_text.j2])
            | succ kj29 =>
             have H := HA.out
             clear HA
             simp only [casketref11_text.j2] at H
             by_cases c37 : x58_29 = true
             ·subst c37
              have H1 : (if 0 ≤ (wrap64 (x8_1 + 1)) then (if (wrap64 (x8_1 + 1)) < (a0.size : Int) then (if x7_1.length < 140737488355328 then (casketref11_text.l0 kj29 a0 a1 (x7_1 ++ [bt a0 (wrap64 (x8_1 + 1))]) (wrap64 ((wrap64 (x8_1 + 1)) + 1))) else (none)) else (none)) else (none)) = some (r1, r2, r3, r4, r5, r6, r7, r8) := by rw [if_pos rfl] at H; exact H
              clear H
              have H := H1
              clear H1
              obtain ⟨ji38, hji38⟩ : ∃ j_ : Int, (wrap64 (x8_1 + 1)) = j_ := ⟨_, rfl⟩
              replace H : (if 0 ≤ (ji38) then (if (ji38) < (a0.size : Int) then (if x7_1.length < 140737488355328 then (casketref11_text.l0 kj29 a0 a1 (x7_1 ++ [bt a0 (ji38)]) (wrap64 ((ji38) + 1))) else (none)) else (none)) else (none)) = some (r1, r2, r3, r4, r5, r6, r7, r8) := by first | (rw [hji38] at H; exact H) | (simp only [hji38] at H ⊢; exact H)
              (try rw [hji38] at c24b0)
              (try rw [hji38] at c24b1)
              have hji38w : (IntKind.i64.wrap (x8_1 + 1)) = ji38 := (i64_w _).trans hji38
              by_cases c39 : 0 ≤ (ji38)
              ·rw [if_pos c39] at H
               have c39b0 : decide (0 ≤ (ji38)) = true := decide_eq_true c39
               clear c39
               by_cases c40 : (ji38) < (a0.size : Int)
               ·rw [if_pos c40] at H
                have c40b0 : decide ((ji38) < (a0.size : Int)) = true := decide_eq_true c40
                clear c40
                by_cases c42 : x7_1.length < 140737488355328
                ·rw [if_pos c42] at H
                 have LMc42 := Aside0.mk c42
                 clear c42
                 obtain ⟨y352, hy352⟩ : ∃ y_ : List Int, y_ = (x7_1 ++ [bt a0 (ji38)]) := ⟨_, rfl⟩
                 replace H : (casketref11_text.l0 kj29 a0 a1 y352 (wrap64 ((ji38) + 1))) = some (r1, r2, r3, r4, r5, r6, r7, r8) := by first | (rw [hy352]; with_reducible exact H) | (have H2_ := (Option.bind_some _ _).symm.trans H; rw [hy352]; with_reducible exact H2_) | (have H2_ := (Option.bind_some _ _).symm.trans H; with_reducible exact H2_) | with_reducible exact H | (rw [hy352]; exact H) | exact H
                 have Ny352 := Aside0.mk hy352
                 clear hy352
                 have H' := Aside0.mk H
                 clear H
                 have p41 : 0 ≤ ((ji38) : Int) := of_decide_eq_true x62_12
                 have q41 : (ji38) < (a0.size : Int) := of_decide_eq_true x62_12
                 have hx41 := bt_at a0 (ji38)
                 replace p41 := eq_true p41
                 replace q41 := eq_true q41
                 go_wp2_with (first | ((with_reducible refine gate_builtin (b := .append) (xs := #[.tmp 59, .tmp 63]) rfl ?_); (try (refine gate_guard (by rfl) ?_; dsimp only)); at_builtin; refine Kd.R_append (Kd.int .u8) (w0 := w) w.heap.size rfl (.tmp 59) (.tmp 63) 36 5 (.int .u8 0) 1 rfl Tryd.underlying36 info5 rfl (by decide) (by omega) u7 x7_1 (bt a0 (ji38)) [.int .u8 (bt a0 (ji38))] (fun _ => True) (fun _ => False) rfl rfl ?aP (fun _ hk => hk.elim) ?aF ?aO ?aB ?aS ?aL ?_; (case aP => exact rfl); (case aB => exact x62_0); (case aF => exact (fun _ _ => trivial)); (case aO => exact x62_4); (case aS => exact (below_size x62_0)); (case aL => have := LMc42.out; omega); intro v353 w43 ho hb hg hat; rw [← Ny352.out] at ho; have n0_ := Aside0.mk (blk_grown (g := gb320) (o := .cells #[.int .i64 x321000_1, .int .i64 x321001_1, .string x321002_1, .int .i64 x321003_1, .int .u64 x321004_1] 30 (0, 0)) x62_5 hg (Kd.R_ne HO_7.out BK320.out (by decide))); have n1_ := Aside0.mk (blk_grown (g := gb321) (o := .cells #[.int .i64 x322000_1, .int .i64 x322001_1] 25 (0, 0)) x62_6 hg (Kd.R_ne HO_7.out BK321.out (by decide))); have n2_ := Aside0.mk (hb); have n3_ := Aside0.mk (ho); clear BK320; clear BK321; clear HB; clear HO_7; have BK320 := n0_; have BK321 := n1_; have HB := n2_; have HO354 := n3_; clear n0_ n1_ n2_ n3_; clear ho hb hg hat))
                 go_roundg kj29
                 case measure => have := HK1.out; have := HJ14.out; have := HJ29.out; omega
                 case rel => exact ⟨(y352), (wrap64 ((ji38) + 1)), (x321000_1), (x321001_1), (x321002_1), (x321003_1), (x321004_1), (x322000_1), (x322001_1), (by first | rfl | (simp; done) | (simp only [← hji38] <;> (first | rfl | simp)) | (simp [*]; done)), H', ⟨by have := HK1.out; have := HJ14.out; have := HJ29.out; omega⟩, ⟨by (with_reducible repeat (first | apply Kd.R_alloc | apply Kd.R_drewN | apply Kd.R_drew)); exact HO354.out⟩, ⟨x62_5⟩, ⟨x62_6⟩, ⟨x62_0⟩⟩
                ·rw [if_neg c42] at H
                 exact absurd H (by simp)
               ·rw [if_neg c40] at H
                exact absurd H (by simp)
              ·rw [if_neg c39] at H
               exact absurd H (by simp)
             ·replace c37 := Bool.eq_false_iff.mpr c37
              subst c37
              have H1 : (if 0 ≤ (wrap64 (x8_1 + 1)) then (if (wrap64 (x8_1 + 1)) < (a0.size : Int) then (if (bt a0 (wrap64 (x8_1 + 1))) = 110 then (if x7_1.length < 140737488355328 then (casketref11_text.l0 kj29 a0 a1 (x7_1 ++ [10]) (wrap64 ((wrap64 (x8_1 + 1)) + 1))) else (none)) else (if (bt a0 (wrap64 (x8_1 + 1))) = 120 then (if (wrap64 ((wrap64 (x8_1 + 1)) + 2)) < (a0.size : Int) then (if 0 ≤ (wrap64 ((wrap64 (x8_1 + 1)) + 1)) then (if (wrap64 ((wrap64 (x8_1 + 1)) + 1)) < (a0.size : Int) then ((casketref11_hex.f (bt a0 (wrap64 ((wrap64 (x8_1 + 1)) + 1)))).bind fun t358 => (if t358 ≥ 0 then (if 0 ≤ (wrap64 ((wrap64 (x8_1 + 1)) + 2)) then ((casketref11_hex.f (bt a0 (wrap64 ((wrap64 (x8_1 + 1)) + 2)))).bind fun t359 => (casketref11_text.j3 kj29 a0 a1 x7_1 (wrap64 (x8_1 + 1)) (decide (t359 ≥ 0)))) else (none)) else (casketref11_text.j3 kj29 a0 a1 x7_1 (wrap64 (x8_1 + 1)) false))) else (none)) else (none)) else (casketref11_text.j3 kj29 a0 a1 x7_1 (wrap64 (x8_1 + 1)) false)) else (casketref11_text.j3 kj29 a0 a1 x7_1 (wrap64 (x8_1 + 1)) false))) else (none)) else (none)) = some (r1, r2, r3, r4, r5, r6, r7, r8) := by rw [if_neg (show ¬ (false = true) by decide)] at H; exact H
              clear H
              have H := H1
              clear H1
              obtain ⟨ji44, hji44⟩ : ∃ j_ : Int, (wrap64 (x8_1 + 1)) = j_ := ⟨_, rfl⟩
              replace H : (if 0 ≤ (ji44) then (if (ji44) < (a0.size : Int) then (if (bt a0 (ji44)) = 110 then (if x7_1.length < 140737488355328 then (casketref11_text.l0 kj29 a0 a1 (x7_1 ++ [10]) (wrap64 ((ji44) + 1))) else (none)) else (if (bt a0 (ji44)) = 120 then (if (wrap64 ((ji44) + 2)) < (a0.size : Int) then (if 0 ≤ (wrap64 ((ji44) + 1)) then (if (wrap64 ((ji44) + 1)) < (a0.size : Int) then ((casketref11_hex.f (bt a0 (wrap64 ((ji44) + 1)))).bind fun t358 => (if t358 ≥ 0 then (if 0 ≤ (wrap64 ((ji44) + 2)) then ((casketref11_hex.f (bt a0 (wrap64 ((ji44) + 2)))).bind fun t359 => (casketref11_text.j3 kj29 a0 a1 x7_1 (ji44) (decide (t359 ≥ 0)))) else (none)) else (casketref11_text.j3 kj29 a0 a1 x7_1 (ji44) false))) else (none)) else (none)) else (casketref11_text.j3 kj29 a0 a1 x7_1 (ji44) false)) else (casketref11_text.j3 kj29 a0 a1 x7_1 (ji44) false))) else (none)) else (none)) = some (r1, r2, r3, r4, r5, r6, r7, r8) := by first | (rw [hji44] at H; exact H) | (simp only [hji44] at H ⊢; exact H)
              (try rw [hji44] at c24b0)
              (try rw [hji44] at c24b1)
              have hji44w : (IntKind.i64.wrap (x8_1 + 1)) = ji44 := (i64_w _).trans hji44
              by_cases c45 : 0 ≤ (ji44)
              ·rw [if_pos c45] at H
               have c45b0 : decide (0 ≤ (ji44)) = true := decide_eq_true c45
               clear c45
               by_cases c46 : (ji44) < (a0.size : Int)
               ·rw [if_pos c46] at H
                have c46b0 : decide ((ji44) < (a0.size : Int)) = true := decide_eq_true c46
                clear c46
                by_cases c48 : (bt a0 (ji44)) = 110
                ·rw [if_pos c48] at H
                 have c48b0 : ((bt a0 (ji44)) == 110) = true := beq_iff_eq.mpr c48
                 have c48b1 : ((bt a0 (ji44)) != 110) = false := bne_eq_false_iff_eq.mpr c48
                 clear c48
                 by_cases c49 : x7_1.length < 140737488355328
                 ·rw [if_pos c49] at H
                  have LMc49 := Aside0.mk c49
                  clear c49
                  obtain ⟨y355, hy355⟩ : ∃ y_ : List Int, y_ = (x7_1 ++ [10]) := ⟨_, rfl⟩
                  replace H : (casketref11_text.l0 kj29 a0 a1 y355 (wrap64 ((ji44) + 1))) = some (r1, r2, r3, r4, r5, r6, r7, r8) := by first | (rw [hy355]; with_reducible exact H) | (have H2_ := (Option.bind_some _ _).symm.trans H; rw [hy355]; with_reducible exact H2_) | (have H2_ := (Option.bind_some _ _).symm.trans H; with_reducible exact H2_) | with_reducible exact H | (rw [hy355]; exact H) | exact H
                  have Ny355 := Aside0.mk hy355
                  clear hy355
                  have H' := Aside0.mk H
                  clear H
                  have p47 : 0 ≤ ((ji44) : Int) := of_decide_eq_true x62_12
                  have q47 : (ji44) < (a0.size : Int) := of_decide_eq_true x62_12
                  have hx47 := bt_at a0 (ji44)
                  replace p47 := eq_true p47
                  replace q47 := eq_true q47
                  go_wp2_with (first | ((with_reducible refine gate_builtin (b := .append) (xs := #[.tmp 69, .tmp 70]) rfl ?_); (try (refine gate_guard (by rfl) ?_; dsimp only)); at_builtin; refine Kd.R_append (Kd.int .u8) (w0 := w) w.heap.size rfl (.tmp 69) (.tmp 70) 36 5 (.int .u8 0) 1 rfl Tryd.underlying36 info5 rfl (by decide) (by omega) u7 x7_1 10 [.int .u8 10] (fun _ => True) (fun _ => False) rfl rfl ?aP (fun _ hk => hk.elim) ?aF ?aO ?aB ?aS ?aL ?_; (case aP => exact rfl); (case aB => exact x62_0); (case aF => exact (fun _ _ => trivial)); (case aO => exact x62_4); (case aS => exact (below_size x62_0)); (case aL => have := LMc49.out; omega); intro v356 w50 ho hb hg hat; rw [← Ny355.out] at ho; have n0_ := Aside0.mk (blk_grown (g := gb320) (o := .cells #[.int .i64 x321000_1, .int .i64 x321001_1, .string x321002_1, .int .i64 x321003_1, .int .u64 x321004_1] 30 (0, 0)) x62_5 hg (Kd.R_ne HO_7.out BK320.out (by decide))); have n1_ := Aside0.mk (blk_grown (g := gb321) (o := .cells #[.int .i64 x322000_1, .int .i64 x322001_1] 25 (0, 0)) x62_6 hg (Kd.R_ne HO_7.out BK321.out (by decide))); have n2_ := Aside0.mk (hb); have n3_ := Aside0.mk (ho); clear BK320; clear BK321; clear HB; clear HO_7; have BK320 := n0_; have BK321 := n1_; have HB := n2_; have HO357 := n3_; clear n0_ n1_ n2_ n3_; clear ho hb hg hat))
                  go_roundg kj29
                  case measure => have := HK1.out; have := HJ14.out; have := HJ29.out; omega
                  case rel => exact ⟨(y355), (wrap64 ((ji44) + 1)), (x321000_1), (x321001_1), (x321002_1), (x321003_1), (x321004_1), (x322000_1), (x322001_1), (by first | rfl | (simp; done) | (simp only [← hji44] <;> (first | rfl | simp)) | (simp [*]; done)), H', ⟨by have := HK1.out; have := HJ14.out; have := HJ29.out; omega⟩, ⟨by (with_reducible repeat (first | apply Kd.R_alloc | apply Kd.R_drewN | apply Kd.R_drew)); exact HO357.out⟩, ⟨x62_5⟩, ⟨x62_6⟩, ⟨x62_0⟩⟩
                 ·rw [if_neg c49] at H
                  exact absurd H (by simp)
                ·rw [if_neg c48] at H
                 have c48b0 : ((bt a0 (ji44)) == 110) = false := beq_eq_false_iff_ne.mpr c48
                 have c48b1 : ((bt a0 (ji44)) != 110) = true := bne_iff_ne.mpr c48
                 have HC51 := Aside0.mk H
                 clear H
                 have p47 : 0 ≤ ((ji44) : Int) := of_decide_eq_true x62_12
                 have q47 : (ji44) < (a0.size : Int) := of_decide_eq_true x62_12
                 have hx47 := bt_at a0 (ji44)
                 replace p47 := eq_true p47
                 replace q47 := eq_true q47
                 go_upto_region 17 with (fail)
                 go_cut [98] (fun v98 wc => ∃ (kq : Nat) (x98_50 : Bool), v98 = .bool x98_50 ∧ Aside0 (casketref11_text.j3 kq a0 a1 x7_1 (ji44) x98_50 = some (r1, r2, r3, r4, r5, r6, r7, r8)) ∧ Aside0 (kq ≤ kj29) ∧ Aside0 (Kd.R (Kd.int .u8) 5 wc w.heap.size (fun _ => True) u7 x7_1) ∧ Aside0 (wc.heap[gb320]? = some (.cells #[.int .i64 x321000_1, .int .i64 x321001_1, .string x321002_1, .int .i64 x321003_1, .int .u64 x321004_1] 30 (0, 0))) ∧ Aside0 (wc.heap[gb321]? = some (.cells #[.int .i64 x322000_1, .int .i64 x322001_1] 25 (0, 0))) ∧ Aside0 (Below w.heap.size w wc))
                 case first =>
                  have H := HC51.out
                  clear HC51
                  by_cases c53 : (bt a0 (ji44)) = 120
                  ·rw [if_pos c53] at H
                   have c53b0 : ((bt a0 (ji44)) == 120) = true := beq_iff_eq.mpr c53
                   have c53b1 : ((bt a0 (ji44)) != 120) = false := bne_eq_false_iff_eq.mpr c53
                   clear c53
                   (first | rw [c53b0] | (simp only [i64_w, i32_w]; rw [c53b0]) | skip)
                   by_cases c54 : (wrap64 ((ji44) + 2)) < (a0.size : Int)
                   ·rw [if_pos c54] at H
                    have c54b0 : decide ((wrap64 ((ji44) + 2)) < (a0.size : Int)) = true := decide_eq_true c54
                    clear c54
                    obtain ⟨ji55, hji55⟩ : ∃ j_ : Int, (wrap64 ((ji44) + 1)) = j_ := ⟨_, rfl⟩
                    replace H : (if 0 ≤ (ji55) then (if (ji55) < (a0.size : Int) then ((casketref11_hex.f (bt a0 (ji55))).bind fun t358 => (if t358 ≥ 0 then (if 0 ≤ (wrap64 ((ji44) + 2)) then ((casketref11_hex.f (bt a0 (wrap64 ((ji44) + 2)))).bind fun t359 => (casketref11_text.j3 kj29 a0 a1 x7_1 (ji44) (decide (t359 ≥ 0)))) else (none)) else (casketref11_text.j3 kj29 a0 a1 x7_1 (ji44) false))) else (none)) else (none)) = some (r1, r2, r3, r4, r5, r6, r7, r8) := by first | (rw [hji55] at H; exact H) | (simp only [hji55] at H ⊢; exact H)
                    have hji55w : (IntKind.i64.wrap ((ji44) + 1)) = ji55 := (i64_w _).trans hji55
                    by_cases c56 : 0 ≤ (ji55)
                    ·rw [if_pos c56] at H
                     have c56b0 : decide (0 ≤ (ji55)) = true := decide_eq_true c56
                     clear c56
                     by_cases c57 : (ji55) < (a0.size : Int)
                     ·rw [if_pos c57] at H
                      have c57b0 : decide ((ji55) < (a0.size : Int)) = true := decide_eq_true c57
                      clear c57
                      replace H := Option.bind_eq_some_iff.mp H
                      obtain ⟨t358, A590, H⟩ := H
                      replace H : (if t358 ≥ 0 then (if 0 ≤ (wrap64 ((ji44) + 2)) then ((casketref11_hex.f (bt a0 (wrap64 ((ji44) + 2)))).bind fun t359 => (casketref11_text.j3 kj29 a0 a1 x7_1 (ji44) (decide (t359 ≥ 0)))) else (none)) else (casketref11_text.j3 kj29 a0 a1 x7_1 (ji44) false)) = some (r1, r2, r3, r4, r5, r6, r7, r8) := H
                      have A59 := Aside0.mk A590
                      clear A590
                      by_cases c60 : t358 ≥ 0
                      ·rw [if_pos c60] at H
                       have c60b0 : decide (0 ≤ t358) = true := decide_eq_true c60
                       clear c60
                       obtain ⟨ji61, hji61⟩ : ∃ j_ : Int, (wrap64 ((ji44) + 2)) = j_ := ⟨_, rfl⟩
                       replace H : (if 0 ≤ (ji61) then ((casketref11_hex.f (bt a0 (ji61))).bind fun t359 => (casketref11_text.j3 kj29 a0 a1 x7_1 (ji44) (decide (t359 ≥ 0)))) else (none)) = some (r1, r2, r3, r4, r5, r6, r7, r8) := by first | (rw [hji61] at H; exact H) | (simp only [hji61] at H ⊢; exact H)
                       (try rw [hji61] at c54b0)
                       (try rw [hji61] at A59)
                       have hji61w : (IntKind.i64.wrap ((ji44) + 2)) = ji61 := (i64_w _).trans hji61
                       by_cases c62 : 0 ≤ (ji61)
                       ·rw [if_pos c62] at H
                        have c62b0 : decide (0 ≤ (ji61)) = true := decide_eq_true c62
                        clear c62
                        replace H := Option.bind_eq_some_iff.mp H
                        obtain ⟨t359, A640, H⟩ := H
                        replace H : (casketref11_text.j3 kj29 a0 a1 x7_1 (ji44) (decide (t359 ≥ 0))) = some (r1, r2, r3, r4, r5, r6, r7, r8) := H
                        have A64 := Aside0.mk A640
                        clear A640
                        have H' := Aside0.mk H
                        clear H
                        have p52 : 0 ≤ ((ji44) : Int) := of_decide_eq_true x62_12
                        have q52 : (ji44) < (a0.size : Int) := of_decide_eq_true x62_12
                        have hx52 := bt_at a0 (ji44)
                        replace p52 := eq_true p52
                        replace q52 := eq_true q52
                        have p58 : 0 ≤ ((ji55) : Int) := of_decide_eq_true x62_12
                        have q58 : (ji55) < (a0.size : Int) := of_decide_eq_true x62_12
                        have hx58 := bt_at a0 (ji55)
                        replace p58 := eq_true p58
                        replace q58 := eq_true q58
                        go_wp2_with (first | (go_at_call 53; (with_reducible refine (casketref11_hex.calls (bt a0 (ji55)) t358 _ A59.out).mono ?_); rintro e w' ⟨rfl, ⟨nd, rfl⟩⟩; have p63 : 0 ≤ ((ji61) : Int) := of_decide_eq_true x62_12; have q63 : (ji61) < (a0.size : Int) := of_decide_eq_true x62_12; have hx63 := bt_at a0 (ji61); replace p63 := eq_true p63; replace q63 := eq_true q63) | (go_at_call 53; (with_reducible refine (casketref11_hex.calls (bt a0 (ji61)) t359 _ A64.out).mono ?_); rintro e w' ⟨rfl, ⟨nd, rfl⟩⟩))
                        first
                        | (go_meet; case rel => exact ⟨_, (decide (t359 ≥ 0)), x62_13, H', ⟨x62_9⟩, ⟨x62_4⟩, ⟨x62_5⟩, ⟨x62_6⟩, ⟨x62_0⟩⟩)
                        | (go_meet; case rel => simp only [hji31, hji38, hji44, hji55, hji61]; exact ⟨_, (decide (t359 ≥ 0)), x62_13, H', ⟨x62_9⟩, ⟨x62_4⟩, ⟨x62_5⟩, ⟨x62_6⟩, ⟨x62_0⟩⟩)
                        | ((try subst hji31); (try subst hji38); (try subst hji44); (try subst hji55); (try subst hji61); (try subst hji66); (try subst hji71); go_meet; case rel => exact ⟨_, (decide (t359 ≥ 0)), x62_13, H', ⟨x62_9⟩, ⟨x62_4⟩, ⟨x62_5⟩, ⟨x62_6⟩, ⟨x62_0⟩⟩)
                       ·rw [if_neg c62] at H
                        exact absurd H (by simp)
                      ·rw [if_neg c60] at H
                       have c60b0 : decide (0 ≤ t358) = false := decide_eq_false c60
                       clear c60
                       have H' := Aside0.mk H
                       clear H
                       have p52 : 0 ≤ ((ji44) : Int) := of_decide_eq_true x62_12
                       have q52 : (ji44) < (a0.size : Int) := of_decide_eq_true x62_12
                       have hx52 := bt_at a0 (ji44)
                       replace p52 := eq_true p52
                       replace q52 := eq_true q52
                       have p58 : 0 ≤ ((ji55) : Int) := of_decide_eq_true x62_12
                       have q58 : (ji55) < (a0.size : Int) := of_decide_eq_true x62_12
                       have hx58 := bt_at a0 (ji55)
                       replace p58 := eq_true p58
                       replace q58 := eq_true q58
                       go_wp2_with (first | (go_at_call 53; (with_reducible refine (casketref11_hex.calls (bt a0 (ji55)) t358 _ A59.out).mono ?_); rintro e w' ⟨rfl, ⟨nd, rfl⟩⟩))
                       first
                       | (go_meet; case rel => exact ⟨_, (false), x62_13, H', ⟨x62_9⟩, ⟨x62_4⟩, ⟨x62_5⟩, ⟨x62_6⟩, ⟨x62_0⟩⟩)
                       | (go_meet; case rel => simp only [hji31, hji38, hji44, hji55, hji61]; exact ⟨_, (false), x62_13, H', ⟨x62_9⟩, ⟨x62_4⟩, ⟨x62_5⟩, ⟨x62_6⟩, ⟨x62_0⟩⟩)
                       | ((try subst hji31); (try subst hji38); (try subst hji44); (try subst hji55); (try subst hji61); (try subst hji66); (try subst hji71); go_meet; case rel => exact ⟨_, (false), x62_13, H', ⟨x62_9⟩, ⟨x62_4⟩, ⟨x62_5⟩, ⟨x62_6⟩, ⟨x62_0⟩⟩)
                     ·rw [if_neg c57] at H
                      exact absurd H (by simp)
                    ·rw [if_neg c56] at H
                     exact absurd H (by simp)
                   ·rw [if_neg c54] at H
                    have c54b0 : decide ((wrap64 ((ji44) + 2)) < (a0.size : Int)) = false := decide_eq_false c54
                    clear c54
                    have H' := Aside0.mk H
                    clear H
                    have p52 : 0 ≤ ((ji44) : Int) := of_decide_eq_true x62_12
                    have q52 : (ji44) < (a0.size : Int) := of_decide_eq_true x62_12
                    have hx52 := bt_at a0 (ji44)
                    replace p52 := eq_true p52
                    replace q52 := eq_true q52
                    go_wp2
                    first
                    | (go_meet; case rel => exact ⟨_, (false), x62_13, H', ⟨x62_9⟩, ⟨x62_4⟩, ⟨x62_5⟩, ⟨x62_6⟩, ⟨x62_0⟩⟩)
                    | (go_meet; case rel => simp only [hji31, hji38, hji44, hji55, hji61]; exact ⟨_, (false), x62_13, H', ⟨x62_9⟩, ⟨x62_4⟩, ⟨x62_5⟩, ⟨x62_6⟩, ⟨x62_0⟩⟩)
                    | ((try subst hji31); (try subst hji38); (try subst hji44); (try subst hji55); (try subst hji61); (try subst hji66); (try subst hji71); go_meet; case rel => exact ⟨_, (false), x62_13, H', ⟨x62_9⟩, ⟨x62_4⟩, ⟨x62_5⟩, ⟨x62_6⟩, ⟨x62_0⟩⟩)
                  ·rw [if_neg c53] at H
                   have c53b0 : ((bt a0 (ji44)) == 120) = false := beq_eq_false_iff_ne.mpr c53
                   have c53b1 : ((bt a0 (ji44)) != 120) = true := bne_iff_ne.mpr c53
                   (first | rw [c53b0] | (simp only [i64_w, i32_w]; rw [c53b0]) | skip)
                   have H' := Aside0.mk H
                   clear H
                   have p52 : 0 ≤ ((ji44) : Int) := of_decide_eq_true x62_12
                   have q52 : (ji44) < (a0.size : Int) := of_decide_eq_true x62_12
                   have hx52 := bt_at a0 (ji44)
                   replace p52 := eq_true p52
                   replace q52 := eq_true q52
                   go_wp2
                   first
                   | (go_meet; case rel => exact ⟨_, (false), x62_13, H', ⟨x62_9⟩, ⟨x62_4⟩, ⟨x62_5⟩, ⟨x62_6⟩, ⟨x62_0⟩⟩)
                   | (go_meet; case rel => simp only [hji31, hji38, hji44, hji55, hji61]; exact ⟨_, (false), x62_13, H', ⟨x62_9⟩, ⟨x62_4⟩, ⟨x62_5⟩, ⟨x62_6⟩, ⟨x62_0⟩⟩)
                   | ((try subst hji31); (try subst hji38); (try subst hji44); (try subst hji55); (try subst hji61); (try subst hji66); (try subst hji71); go_meet; case rel => exact ⟨_, (false), x62_13, H', ⟨x62_9⟩, ⟨x62_4⟩, ⟨x62_5⟩, ⟨x62_6⟩, ⟨x62_0⟩⟩)
                 case rest =>
                  clear HC51
                  obtain ⟨kq, x98_50, rfl, HA, HJ50, HO_7, BK320, BK321, HB⟩ := hcut
                  cases kq with
                  | zero => exact absurd HA.out (by simp [casketref11_text.j3])
                  | succ kj50 =>
                   have H := HA.out
                   clear HA
                   simp only [casketref11_text.j3] at H
                   by_cases c65 : x98_50 = true
                   ·subst c65
                    have H1 : (if 0 ≤ (wrap64 ((ji44) + 1)) then (if (wrap64 ((ji44) + 1)) < (a0.size : Int) then ((casketref11_hex.f (bt a0 (wrap64 ((ji44) + 1)))).bind fun t360 => (if 0 ≤ (wrap64 ((ji44) + 2)) then (if (wrap64 ((ji44) + 2)) < (a0.size : Int) then ((casketref11_hex.f (bt a0 (wrap64 ((ji44) + 2)))).bind fun t361 => (if x7_1.length < 140737488355328 then (casketref11_text.l0 kj50 a0 a1 (x7_1 ++ [(wrap64 ((wrap64 (16 * t360)) + t361)) % 256]) (wrap64 ((wrap64 ((ji44) + 2)) + 1))) else (none))) else (none)) else (none))) else (none)) else (none)) = some (r1, r2, r3, r4, r5, r6, r7, r8) := by rw [if_pos rfl] at H; exact H
                    clear H
                    have H := H1
                    clear H1
                    obtain ⟨ji66, hji66⟩ : ∃ j_ : Int, (wrap64 ((ji44) + 1)) = j_ := ⟨_, rfl⟩
                    replace H : (if 0 ≤ (ji66) then (if (ji66) < (a0.size : Int) then ((casketref11_hex.f (bt a0 (ji66))).bind fun t360 => (if 0 ≤ (wrap64 ((ji44) + 2)) then (if (wrap64 ((ji44) + 2)) < (a0.size : Int) then ((casketref11_hex.f (bt a0 (wrap64 ((ji44) + 2)))).bind fun t361 => (if x7_1.length < 140737488355328 then (casketref11_text.l0 kj50 a0 a1 (x7_1 ++ [(wrap64 ((wrap64 (16 * t360)) + t361)) % 256]) (wrap64 ((wrap64 ((ji44) + 2)) + 1))) else (none))) else (none)) else (none))) else (none)) else (none)) = some (r1, r2, r3, r4, r5, r6, r7, r8) := by first | (rw [hji66] at H; exact H) | (simp only [hji66] at H ⊢; exact H)
                    have hji66w : (IntKind.i64.wrap ((ji44) + 1)) = ji66 := (i64_w _).trans hji66
                    by_cases c67 : 0 ≤ (ji66)
                    ·rw [if_pos c67] at H
                     have c67b0 : decide (0 ≤ (ji66)) = true := decide_eq_true c67
                     clear c67
                     by_cases c68 : (ji66) < (a0.size : Int)
                     ·rw [if_pos c68] at H
                      have c68b0 : decide ((ji66) < (a0.size : Int)) = true := decide_eq_true c68
                      clear c68
                      replace H := Option.bind_eq_some_iff.mp H
                      obtain ⟨t360, A700, H⟩ := H
                      replace H : (if 0 ≤ (wrap64 ((ji44) + 2)) then (if (wrap64 ((ji44) + 2)) < (a0.size : Int) then ((casketref11_hex.f (bt a0 (wrap64 ((ji44) + 2)))).bind fun t361 => (if x7_1.length < 140737488355328 then (casketref11_text.l0 kj50 a0 a1 (x7_1 ++ [(wrap64 ((wrap64 (16 * t360)) + t361)) % 256]) (wrap64 ((wrap64 ((ji44) + 2)) + 1))) else (none))) else (none)) else (none)) = some (r1, r2, r3, r4, r5, r6, r7, r8) := H
                      have A70 := Aside0.mk A700
                      clear A700
                      obtain ⟨ji71, hji71⟩ : ∃ j_ : Int, (wrap64 ((ji44) + 2)) = j_ := ⟨_, rfl⟩
                      replace H : (if 0 ≤ (ji71) then (if (ji71) < (a0.size : Int) then ((casketref11_hex.f (bt a0 (ji71))).bind fun t361 => (if x7_1.length < 140737488355328 then (casketref11_text.l0 kj50 a0 a1 (x7_1 ++ [(wrap64 ((wrap64 (16 * t360)) + t361)) % 256]) (wrap64 ((ji71) + 1))) else (none))) else (none)) else (none)) = some (r1, r2, r3, r4, r5, r6, r7, r8) := by first | (rw [hji71] at H; exact H) | (simp only [hji71] at H ⊢; exact H)
                      (try rw [hji71] at A70)
                      have hji71w : (IntKind.i64.wrap ((ji44) + 2)) = ji71 := (i64_w _).trans hji71
                      by_cases c72 : 0 ≤ (ji71)
                      ·rw [if_pos c72] at H
                       have c72b0 : decide (0 ≤ (ji71)) = true := decide_eq_true c72
                       clear c72
                       by_cases c73 : (ji71) < (a0.size : Int)
                       ·rw [if_pos c73] at H
                        have c73b0 : decide ((ji71) < (a0.size : Int)) = true := decide_eq_true c73
                        clear c73
                        replace H := Option.bind_eq_some_iff.mp H
                        obtain ⟨t361, A750, H⟩ := H
                        replace H : (if x7_1.length < 140737488355328 then (casketref11_text.l0 kj50 a0 a1 (x7_1 ++ [(wrap64 ((wrap64 (16 * t360)) + t361)) % 256]) (wrap64 ((ji71) + 1))) else (none)) = some (r1, r2, r3, r4, r5, r6, r7, r8) := H
                        have A75 := Aside0.mk A750
                        clear A750
                        by_cases c76 : x7_1.length < 140737488355328
                        ·rw [if_pos c76] at H
                         have LMc76 := Aside0.mk c76
                         clear c76
                         obtain ⟨y362, hy362⟩ : ∃ y_ : List Int, y_ = (x7_1 ++ [(wrap64 ((wrap64 (16 * t360)) + t361)) % 256]) := ⟨_, rfl⟩
                         replace H : (casketref11_text.l0 kj50 a0 a1 y362 (wrap64 ((ji71) + 1))) = some (r1, r2, r3, r4, r5, r6, r7, r8) := by first | (rw [hy362]; with_reducible exact H) | (have H2_ := (Option.bind_some _ _).symm.trans H; rw [hy362]; with_reducible exact H2_) | (have H2_ := (Option.bind_some _ _).symm.trans H; with_reducible exact H2_) | with_reducible exact H | (rw [hy362]; exact H) | exact H
                         have Ny362 := Aside0.mk hy362
                         clear hy362
                         have H' := Aside0.mk H
                         clear H
                         try go_wp2
                         have n0_ := Aside0.mk (Kd.R_drew HO_7.out)
                         have n1_ := Aside0.mk (blk_drew BK320.out)
                         have n2_ := Aside0.mk (blk_drew BK321.out)
                         have n3_ := Aside0.mk (below_drew1 HB.out)
                         clear HO_7
                         clear BK320
                         clear BK321
                         clear HB
                         have HO_7 := n0_
                         have BK320 := n1_
                         have BK321 := n2_
                         have HB := n3_
                         clear n0_ n1_ n2_ n3_
                         have p69 : 0 ≤ ((ji66) : Int) := of_decide_eq_true x62_12
                         have q69 : (ji66) < (a0.size : Int) := of_decide_eq_true x62_12
                         have hx69 := bt_at a0 (ji66)
                         replace p69 := eq_true p69
                         replace q69 := eq_true q69
                         have p74 : 0 ≤ ((ji71) : Int) := of_decide_eq_true x62_12
                         have q74 : (ji71) < (a0.size : Int) := of_decide_eq_true x62_12
                         have hx74 := bt_at a0 (ji71)
                         replace p74 := eq_true p74
                         replace q74 := eq_true q74
                         refine start_ (n := 17) (S := fun w' => True) (ds := []) #[false, false, false, false, false, false, false, false, false, false, false, false, false, false, false, false, false] (by kernel_rfl) rfl rfl trivial (fun hHeld => ?_); refine with_tabW casketref11_text.tab18 casketref11_text.bits18 (fun HT_ HW_ => ?_)
                         generalize wc.drew = w77 at HO_7 BK320 BK321 HB hHeld ⊢
                         refine pure_ (i := 0) (N := some 99) (v := ?_) (a' := ?_) #[true, false, false, false, false, false, false, false, false, false, false, false, false, false, false, false, false] rfl rfl (any_of HT_.out (by kernel_rfl)) (fun _ _ _ h => h) (Or.inl ⟨by rfl, ?_⟩) ?_ ?_
                         rotate_left
                         ·intro w'
                          go_simp
                          with_reducible rfl
                         rotate_left
                         ·simp only [Act.put, List.setIfInBounds_toArray, List.set_cons_zero, List.set_cons_succ, i64_w, i32_w]
                          rfl
                         refine pure_ (i := 1) (N := some 100) (v := ?_) (a' := ?_) #[true, true, false, false, false, false, false, false, false, false, false, false, false, false, false, false, false] rfl rfl (any_of HT_.out (by kernel_rfl)) (fun _ _ _ h => h) (Or.inl ⟨by rfl, ?_⟩) ?_ ?_
                         rotate_left
                         ·intro w'
                          go_simp
                          with_reducible rfl
                         rotate_left
                         ·simp only [Act.put, List.setIfInBounds_toArray, List.set_cons_zero, List.set_cons_succ, i64_w, i32_w]
                          rfl
                         refine pure_ (i := 2) (N := some 101) (v := ?_) (a' := ?_) #[true, true, true, false, false, false, false, false, false, false, false, false, false, false, false, false, false] rfl rfl (any_of HT_.out (by kernel_rfl)) (fun _ _ _ h => h) (Or.inl ⟨by rfl, ?_⟩) ?_ ?_
                         rotate_left
                         ·intro w'
                          go_simp
                          with_reducible rfl
                         rotate_left
                         ·simp only [Act.put, List.setIfInBounds_toArray, List.set_cons_zero, List.set_cons_succ, i64_w, i32_w]
                          rfl
                         refine pure_ (i := 3) (N := some 102) (v := ?_) (a' := ?_) #[true, true, true, true, false, false, false, false, false, false, false, false, false, false, false, false, false] rfl rfl (any_of HT_.out (by kernel_rfl)) (fun _ _ _ h => h) (Or.inl ⟨by rfl, ?_⟩) ?_ ?_
                         rotate_left
                         ·intro w'
                          go_simp
                          with_reducible rfl
                         rotate_left
                         ·simp only [Act.put, List.setIfInBounds_toArray, List.set_cons_zero, List.set_cons_succ, i64_w, i32_w]
                          rfl
                         refine pure_ (i := 7) (N := some 106) (v := ?_) (a' := ?_) #[true, true, true, true, false, false, false, true, false, false, false, false, false, false, false, false, false] rfl rfl (any_of HT_.out (by kernel_rfl)) (fun _ _ _ h => h) (Or.inl ⟨by rfl, ?_⟩) ?_ ?_
                         rotate_left
                         ·intro w'
                          go_simp
                          with_reducible rfl
                         rotate_left
                         ·simp only [Act.put, List.setIfInBounds_toArray, List.set_cons_zero, List.set_cons_succ, i64_w, i32_w]
                          rfl
                         refine pure_ (i := 8) (N := some 107) (v := ?_) (a' := ?_) #[true, true, true, true, false, false, false, true, true, false, false, false, false, false, false, false, false] rfl rfl (any_of HT_.out (by kernel_rfl)) (fun _ _ _ h => h) (Or.inl ⟨by rfl, ?_⟩) ?_ ?_
                         rotate_left
                         ·intro w'
                          go_simp
                          with_reducible rfl
                         rotate_left
                         ·simp only [Act.put, List.setIfInBounds_toArray, List.set_cons_zero, List.set_cons_succ, i64_w, i32_w]
                          rfl
                         refine pure_ (i := 9) (N := some 108) (v := ?_) (a' := ?_) #[true, true, true, true, false, false, false, true, true, true, false, false, false, false, false, false, false] rfl rfl (any_of HT_.out (by kernel_rfl)) (fun _ _ _ h => h) (Or.inl ⟨by rfl, ?_⟩) ?_ ?_
                         rotate_left
                         ·intro w'
                          go_simp
                          with_reducible rfl
                         rotate_left
                         ·simp only [Act.put, List.setIfInBounds_toArray, List.set_cons_zero, List.set_cons_succ, i64_w, i32_w]
                          rfl
                         refine take_ (i := 4) (N := some 103) (v := ?_) (a' := ?_) #[true, true, true, true, true, false, false, true, true, true, false, false, false, false, false, false, false] rfl rfl (take_ofW HT_.out HW_.out (by kernel_rfl)) (fun _ _ _ h => h) (Or.inl ⟨by rfl, ?_⟩) hHeld ?_ ?_
                         rotate_left
                         ·intro w' _
                          go_simp
                          with_reducible rfl
                         rotate_left
                         ·simp only [Act.put, List.setIfInBounds_toArray, List.set_cons_zero, List.set_cons_succ, i64_w, i32_w]
                          rfl
                         refine take_ (i := 10) (N := some 109) (v := ?_) (a' := ?_) #[true, true, true, true, true, false, false, true, true, true, true, false, false, false, false, false, false] rfl rfl (take_ofW HT_.out HW_.out (by kernel_rfl)) (fun _ _ _ h => h) (Or.inl ⟨by rfl, ?_⟩) hHeld ?_ ?_
                         rotate_left
                         ·intro w' _
                          go_simp
                          with_reducible rfl
                         rotate_left
                         ·simp only [Act.put, List.setIfInBounds_toArray, List.set_cons_zero, List.set_cons_succ, i64_w, i32_w]
                          rfl
                         refine one_ (i := 5) (N := some 104) #[true, true, true, true, true, true, false, true, true, true, true, false, false, false, false, false, false] rfl rfl (one_of HT_.out (by kernel_rfl)) (by decide) (fun K hK => ?_)
                         refine goes_ Tryd.func53 (by kernel_rfl) rfl #[.int .u8 (bt a0 (ji66))] (by rfl) rfl rfl (by (try simp only [List.map_toArray, List.map_cons, List.map_nil]); first | done | (simp only [hji66]; rfl) | rfl | (simp only [List.length_drop, List.length_take]; rfl)) ?_
                         with_reducible refine (casketref11_hex.calls (bt a0 (ji66)) t360 _ A70.out).mono ?_
                         rintro e w' ⟨rfl, ⟨nd, rfl⟩⟩
                         refine ⟨_, rfl, ?_⟩
                         refine hK.out _ _ trivial (fun hHeld => ?_)
                         clear hK K
                         refine norm_ (a' := ?_) ?_ ?_
                         rotate_left
                         ·show Act.put _ (some 104) _ = _
                          simp only [Act.put, List.setIfInBounds_toArray, List.set_cons_zero, List.set_cons_succ, i64_w, i32_w]
                          rfl
                         refine pure_ (i := 6) (N := some 105) (v := ?_) (a' := ?_) #[true, true, true, true, true, true, true, true, true, true, true, false, false, false, false, false, false] rfl rfl (any_of HT_.out (by kernel_rfl)) (fun _ _ _ h => h) (Or.inl ⟨by rfl, ?_⟩) ?_ ?_
                         rotate_left
                         ·intro w'
                          go_simp
                          with_reducible rfl
                         rotate_left
                         ·simp only [Act.put, List.setIfInBounds_toArray, List.set_cons_zero, List.set_cons_succ, i64_w, i32_w]
                          rfl
                         refine one_ (i := 11) (N := some 110) #[true, true, true, true, true, true, true, true, true, true, true, true, false, false, false, false, false] rfl rfl (one_of HT_.out (by kernel_rfl)) (by decide) (fun K hK => ?_)
                         refine goes_ Tryd.func53 (by kernel_rfl) rfl #[.int .u8 (bt a0 (ji71))] (by rfl) rfl rfl (by (try simp only [List.map_toArray, List.map_cons, List.map_nil]); first | done | (simp only [hji71]; rfl) | rfl | (simp only [List.length_drop, List.length_take]; rfl)) ?_
                         with_reducible refine (casketref11_hex.calls (bt a0 (ji71)) t361 _ A75.out).mono ?_
                         rintro e w' ⟨rfl, ⟨nd, rfl⟩⟩
                         refine ⟨_, rfl, ?_⟩
                         refine hK.out _ _ trivial (fun hHeld => ?_)
                         clear hK K
                         refine norm_ (a' := ?_) ?_ ?_
                         rotate_left
                         ·show Act.put _ (some 110) _ = _
                          simp only [Act.put, List.setIfInBounds_toArray, List.set_cons_zero, List.set_cons_succ, i64_w, i32_w]
                          rfl
                         refine pure_ (i := 12) (N := some 111) (v := ?_) (a' := ?_) #[true, true, true, true, true, true, true, true, true, true, true, true, true, false, false, false, false] rfl rfl (any_of HT_.out (by kernel_rfl)) (fun _ _ _ h => h) (Or.inl ⟨by rfl, ?_⟩) ?_ ?_
                         rotate_left
                         ·intro w'
                          go_simp
                          with_reducible rfl
                         rotate_left
                         ·simp only [Act.put, List.setIfInBounds_toArray, List.set_cons_zero, List.set_cons_succ, i64_w, i32_w]
                          rfl
                         refine pure_ (i := 13) (N := some 112) (v := ?_) (a' := ?_) #[true, true, true, true, true, true, true, true, true, true, true, true, true, true, false, false, false] rfl rfl (any_of HT_.out (by kernel_rfl)) (fun _ _ _ h => h) (Or.inl ⟨by rfl, ?_⟩) ?_ ?_
                         rotate_left
                         ·intro w'
                          go_simp
                          with_reducible rfl
                         rotate_left
                         ·simp only [Act.put, List.setIfInBounds_toArray, List.set_cons_zero, List.set_cons_succ, i64_w, i32_w]
                          rfl
                         refine one_ (i := 14) (N := some 113) #[true, true, true, true, true, true, true, true, true, true, true, true, true, true, true, false, false] rfl rfl (one_of HT_.out (by kernel_rfl)) (by decide) (fun K hK => ?_)
                         refine value_ (w1 := ?_) (v := ?_) (by rfl) rfl ?_ ?_
                         rotate_left 2
                         ·go_simp
                          constructor
                          ·rfl
                          ·rfl
                         refine hK.out _ _ trivial (fun hHeld => ?_)
                         clear hK K
                         refine norm_ (a' := ?_) ?_ ?_
                         rotate_left
                         ·show Act.put _ (some 113) _ = _
                          simp only [Act.put, List.setIfInBounds_toArray, List.set_cons_zero, List.set_cons_succ, i64_w, i32_w]
                          rfl
                         refine one_ (i := 15) (N := some 114) #[true, true, true, true, true, true, true, true, true, true, true, true, true, true, true, true, false] rfl rfl (one_of HT_.out (by kernel_rfl)) (by decide) (fun K hK => ?_)
                         refine Kd.R_append_step (Kd.int .u8) (w0 := w) w.heap.size (by rfl) (.tmp 99) (.tmp 113) 36 5 (.int .u8 0) 1 rfl Tryd.underlying36 info5 rfl (by decide) (by omega) u7 x7_1 ((wrap64 ((wrap64 (16 * t360)) + t361)) % 256) [.int .u8 ((wrap64 ((wrap64 (16 * t360)) + t361)) % 256)] (fun _ => True) (fun _ => False) rfl rfl ?aP (fun _ hk => hk.elim) ?aF ?aO ?aB ?aS ?aL ?_
                         (case aP => exact rfl)
                         (case aB => exact x62_0)
                         (case aF => exact (fun _ _ => trivial))
                         (case aO => exact x62_4)
                         (case aS => exact (below_size x62_0))
                         (case aL => have := LMc76.out; omega)
                         intro v363 w78 ho hb hg hat
                         rw [← Ny362.out] at ho
                         have n0_ := Aside0.mk (blk_grown (g := gb320) (o := .cells #[.int .i64 x321000_1, .int .i64 x321001_1, .string x321002_1, .int .i64 x321003_1, .int .u64 x321004_1] 30 (0, 0)) x62_5 hg (Kd.R_ne HO_7.out BK320.out (by decide)))
                         have n1_ := Aside0.mk (blk_grown (g := gb321) (o := .cells #[.int .i64 x322000_1, .int .i64 x322001_1] 25 (0, 0)) x62_6 hg (Kd.R_ne HO_7.out BK321.out (by decide)))
                         have n2_ := Aside0.mk (hb)
                         have n3_ := Aside0.mk (ho)
                         clear BK320
                         clear BK321
                         clear HB
                         clear HO_7
                         have BK320 := n0_
                         have BK321 := n1_
                         have HB := n2_
                         have HO364 := n3_
                         clear n0_ n1_ n2_ n3_
                         clear ho hb hg hat
                         refine hK.out _ _ trivial (fun hHeld => ?_)
                         clear hK K
                         refine norm_ (a' := ?_) ?_ ?_
                         rotate_left
                         ·show Act.put _ (some 114) _ = _
                          simp only [Act.put, List.setIfInBounds_toArray, List.set_cons_zero, List.set_cons_succ, i64_w, i32_w]
                          rfl
                         refine pure_ (i := 16) (N := some 7) (v := ?_) (a' := ?_) #[true, true, true, true, true, true, true, true, true, true, true, true, true, true, true, true, true] rfl rfl (any_of HT_.out (by kernel_rfl)) (fun _ _ _ h => h) (Or.inl ⟨by rfl, ?_⟩) ?_ ?_
                         rotate_left
                         ·intro w'
                          go_simp
                          with_reducible rfl
                         rotate_left
                         ·simp only [Act.put, List.setIfInBounds_toArray, List.set_cons_zero, List.set_cons_succ, i64_w, i32_w]
                          rfl
                         refine done_ (done_of HT_.out (by kernel_rfl)) ?_
                         try go_wp2
                         go_roundg kj50
                         case measure => have := HK1.out; have := HJ14.out; have := HJ29.out; have := HJ50.out; omega
                         case rel => exact ⟨(y362), (wrap64 ((ji71) + 1)), (x321000_1), (x321001_1), (x321002_1), (x321003_1), (x321004_1), (x322000_1), (x322001_1), (by first | rfl | (simp; done) | (simp only [← hji71] <;> (first | rfl | simp)) | (simp [*]; done)), H', ⟨by have := HK1.out; have := HJ14.out; have := HJ29.out; have := HJ50.out; omega⟩, ⟨by (with_reducible repeat (first | apply Kd.R_alloc | apply Kd.R_drewN | apply Kd.R_drew)); exact HO364.out⟩, ⟨x62_5⟩, ⟨x62_6⟩, ⟨x62_0⟩⟩
                        ·rw [if_neg c76] at H
                         exact absurd H (by simp)
                       ·rw [if_neg c73] at H
                        exact absurd H (by simp)
                      ·rw [if_neg c72] at H
                       exact absurd H (by simp)
                     ·rw [if_neg c68] at H
                      exact absurd H (by simp)
                    ·rw [if_neg c67] at H
                     exact absurd H (by simp)
                   ·replace c65 := Bool.eq_false_iff.mpr c65
                    subst c65
                    have H1 : ((casketref11_fault.f 61 a1).bind fun bt365 => (some (bt365.1, bt365.2.1, bt365.2.2.1, bt365.2.2.2.1, bt365.2.2.2.2.1, bt365.2.2.2.2.2.1, bt365.2.2.2.2.2.2.1, bt365.2.2.2.2.2.2.2))) = some (r1, r2, r3, r4, r5, r6, r7, r8) := by rw [if_neg (show ¬ (false = true) by decide)] at H; exact H
                    clear H
                    have H := H1
                    clear H1
                    replace H := Option.bind_eq_some_iff.mp H
                    obtain ⟨⟨t365, t366, t367, t368, t369, t370, t371, t372⟩, A790, H⟩ := H
                    replace H : (some (t365, t366, t367, t368, t369, t370, t371, t372)) = some (r1, r2, r3, r4, r5, r6, r7, r8) := H
                    have A79 := Aside0.mk A790
                    clear A790
                    simp only [Option.some.injEq, Prod.mk.injEq] at H
                    obtain ⟨rfl, rfl, rfl, rfl, rfl, rfl, rfl, rfl⟩ := H
                    go_wp2_with (first | ((with_reducible refine gate_callee (f := 34) rfl ?_); refine goesL_ (some 118) rfl rfl Tryd.func34 (by kernel_rfl) rfl #[.int .i64 61, .int .i64 a1] rfl x62_2 ?_; (with_reducible refine (casketref11_fault.calls 61 a1 t365 t366 t367 t368 t369 t370 t371 t372 _ A79.out).mono ?_); rintro e w80 ⟨rfl, hb⟩; refine ⟨_, rfl, ?_⟩; have n0_ := Aside0.mk (Kd.R_below x62_4 hb); have n1_ := Aside0.mk (blk_below (g := gb320) (o := .cells #[.int .i64 x321000_1, .int .i64 x321001_1, .string x321002_1, .int .i64 x321003_1, .int .u64 x321004_1] 30 (0, 0)) x62_5 hb); have n2_ := Aside0.mk (blk_below (g := gb321) (o := .cells #[.int .i64 x322000_1, .int .i64 x322001_1] 25 (0, 0)) x62_6 hb); have n3_ := Aside0.mk (below_step x62_0 hb); clear HO_7; clear BK320; clear BK321; clear HB; have HO_7 := n0_; have BK320 := n1_; have BK321 := n2_; have HB := n3_; clear n0_ n1_ n2_ n3_; have hnb81 := NB320_321.out; have hnc81 := NB321_320.out; have hcz82_0 : w80.cell? ⟨gb320, 0, none⟩ = some (.int .i64 x321000_1) := (blk_cell BK320.out 0).trans rfl; have hcz82_1 : w80.cell? ⟨gb320, 1, none⟩ = some (.int .i64 x321001_1) := (blk_cell BK320.out 1).trans rfl; have hcz82_2 : w80.cell? ⟨gb320, 2, none⟩ = some (.string x321002_1) := (blk_cell BK320.out 2).trans rfl; have hcz82_3 : w80.cell? ⟨gb320, 3, none⟩ = some (.int .i64 x321003_1) := (blk_cell BK320.out 3).trans rfl; have hcz82_4 : w80.cell? ⟨gb320, 4, none⟩ = some (.int .u64 x321004_1) := (blk_cell BK320.out 4).trans rfl; have hfz82_0 := blk_frozen BK320.out 0; have hfz82_1 := blk_frozen BK320.out 1; have hfz82_2 := blk_frozen BK320.out 2; have hfz82_3 := blk_frozen BK320.out 3; have hfz82_4 := blk_frozen BK320.out 4; have hcz83_0 : w80.cell? ⟨gb321, 0, none⟩ = some (.int .i64 x322000_1) := (blk_cell BK321.out 0).trans rfl; have hcz83_1 : w80.cell? ⟨gb321, 1, none⟩ = some (.int .i64 x322001_1) := (blk_cell BK321.out 1).trans rfl; have hfz83_0 := blk_frozen BK321.out 0; have hfz83_1 := blk_frozen BK321.out 1))
                    refine bodyPost_ret (results_list (rs := [.cell 4 30, .tmp 5, .cell 6 25]) rfl (by simp) (.cell gb320 30 #[.int .i64 t365, .int .i64 t366, .string t367, .int .i64 t368, .int .u64 t369] (0, 0) _ rfl (by (with_reducible repeat first | apply blk_drewN | apply blk_drew | apply blk_alloc); refine blk_far ?_ NB320_321.out _; (with_reducible repeat first | apply blk_drewN | apply blk_drew | apply blk_alloc); refine blk_far ?_ NB320_321.out _; (with_reducible repeat first | apply blk_drewN | apply blk_drew | apply blk_alloc); refine blk_put (cs := #[.int .i64 t365, .int .i64 t366, .string t367, .int .i64 t368, .int .u64 x321004_1]) ?_ 4 _ rfl; (with_reducible repeat first | apply blk_drewN | apply blk_drew | apply blk_alloc); refine blk_put (cs := #[.int .i64 t365, .int .i64 t366, .string t367, .int .i64 x321003_1, .int .u64 x321004_1]) ?_ 3 _ rfl; (with_reducible repeat first | apply blk_drewN | apply blk_drew | apply blk_alloc); refine blk_put (cs := #[.int .i64 t365, .int .i64 t366, .string x321002_1, .int .i64 x321003_1, .int .u64 x321004_1]) ?_ 2 _ rfl; (with_reducible repeat first | apply blk_drewN | apply blk_drew | apply blk_alloc); refine blk_put (cs := #[.int .i64 t365, .int .i64 x321001_1, .string x321002_1, .int .i64 x321003_1, .int .u64 x321004_1]) ?_ 1 _ rfl; (with_reducible repeat first | apply blk_drewN | apply blk_drew | apply blk_alloc); refine blk_put (cs := #[.int .i64 x321000_1, .int .i64 x321001_1, .string x321002_1, .int .i64 x321003_1, .int .u64 x321004_1]) ?_ 0 _ rfl; (with_reducible repeat first | apply blk_drewN | apply blk_drew | apply blk_alloc); exact BK320.out) Tryd.underlying30 rfl (by kernel_rfl) (.tmp (.cell gb321 25 #[.int .i64 t371, .int .i64 t372] (0, 0) _ rfl (by (with_reducible repeat first | apply blk_drewN | apply blk_drew | apply blk_alloc); refine blk_put (cs := #[.int .i64 t371, .int .i64 x322001_1]) ?_ 1 _ rfl; (with_reducible repeat first | apply blk_drewN | apply blk_drew | apply blk_alloc); refine blk_put (cs := #[.int .i64 x322000_1, .int .i64 x322001_1]) ?_ 0 _ rfl; (with_reducible repeat first | apply blk_drewN | apply blk_drew | apply blk_alloc); refine blk_far ?_ NB321_320.out _; (with_reducible repeat first | apply blk_drewN | apply blk_drew | apply blk_alloc); refine blk_far ?_ NB321_320.out _; (with_reducible repeat first | apply blk_drewN | apply blk_drew | apply blk_alloc); refine blk_far ?_ NB321_320.out _; (with_reducible repeat first | apply blk_drewN | apply blk_drew | apply blk_alloc); refine blk_far ?_ NB321_320.out _; (with_reducible repeat first | apply blk_drewN | apply blk_drew | apply blk_alloc); refine blk_far ?_ NB321_320.out _; (with_reducible repeat first | apply blk_drewN | apply blk_drew | apply blk_alloc); exact BK321.out) Tryd.underlying25 rfl (by kernel_rfl) .nil)))) rfl ?_
                    exact ⟨by first | rfl | (simp [errW_none, errW_some] <;> rfl) | (simp only [← hji44]; first | rfl | (simp [errW_none, errW_some] <;> rfl)) | (simp [*, errW_none, errW_some] <;> rfl), x62_0⟩
               ·rw [if_neg c46] at H
                exact absurd H (by simp)
              ·rw [if_neg c45] at H
               exact absurd H (by simp)
         ·rw [if_neg c23] at H
          have c23b0 : ((bt a0 x8_1) == 92) = false := beq_eq_false_iff_ne.mpr c23
          have c23b1 : ((bt a0 x8_1) != 92) = true := bne_iff_ne.mpr c23
          by_cases c84 : x7_1.length < 140737488355328
          ·rw [if_pos c84] at H
           have LMc84 := Aside0.mk c84
           clear c84
           obtain ⟨y341, hy341⟩ : ∃ y_ : List Int, y_ = (x7_1 ++ [(bt a0 x8_1)]) := ⟨_, rfl⟩
           replace H : (casketref11_text.l0 kj14 a0 a1 y341 (wrap64 (x8_1 + 1))) = some (r1, r2, r3, r4, r5, r6, r7, r8) := by first | (rw [hy341]; with_reducible exact H) | (have H2_ := (Option.bind_some _ _).symm.trans H; rw [hy341]; with_reducible exact H2_) | (have H2_ := (Option.bind_some _ _).symm.trans H; with_reducible exact H2_) | with_reducible exact H | (rw [hy341]; exact H) | exact H
           have Ny341 := Aside0.mk hy341
           clear hy341
           have H' := Aside0.mk H
           clear H
           go_wp2_with (first | ((with_reducible refine gate_builtin (b := .append) (xs := #[.tmp 39, .tmp 41]) rfl ?_); (try (refine gate_guard (by rfl) ?_; dsimp only)); at_builtin; refine Kd.R_append (Kd.int .u8) (w0 := w) w.heap.size rfl (.tmp 39) (.tmp 41) 36 5 (.int .u8 0) 1 rfl Tryd.underlying36 info5 rfl (by decide) (by omega) u7 x7_1 (bt a0 x8_1) [.int .u8 (bt a0 x8_1)] (fun _ => True) (fun _ => False) rfl rfl ?aP (fun _ hk => hk.elim) ?aF ?aO ?aB ?aS ?aL ?_; (case aP => exact rfl); (case aB => exact x62_0); (case aF => exact (fun _ _ => trivial)); (case aO => exact x62_4); (case aS => exact (below_size x62_0)); (case aL => have := LMc84.out; omega); intro v342 w85 ho hb hg hat; rw [← Ny341.out] at ho; have n0_ := Aside0.mk (blk_grown (g := gb320) (o := .cells #[.int .i64 x321000_1, .int .i64 x321001_1, .string x321002_1, .int .i64 x321003_1, .int .u64 x321004_1] 30 (0, 0)) x62_5 hg (Kd.R_ne HO_7.out BK320.out (by decide))); have n1_ := Aside0.mk (blk_grown (g := gb321) (o := .cells #[.int .i64 x322000_1, .int .i64 x322001_1] 25 (0, 0)) x62_6 hg (Kd.R_ne HO_7.out BK321.out (by decide))); have n2_ := Aside0.mk (hb); have n3_ := Aside0.mk (ho); clear BK320; clear BK321; clear HB; clear HO_7; have BK320 := n0_; have BK321 := n1_; have HB := n2_; have HO343 := n3_; clear n0_ n1_ n2_ n3_; clear ho hb hg hat))
           go_roundg kj14
           case measure => have := HK1.out; have := HJ14.out; omega
           case rel => exact ⟨(y341), (wrap64 (x8_1 + 1)), (x321000_1), (x321001_1), (x321002_1), (x321003_1), (x321004_1), (x322000_1), (x322001_1), x62_13, H', ⟨by have := HK1.out; have := HJ14.out; omega⟩, ⟨by (with_reducible repeat (first | apply Kd.R_alloc | apply Kd.R_drewN | apply Kd.R_drew)); exact HO343.out⟩, ⟨x62_5⟩, ⟨x62_6⟩, ⟨x62_0⟩⟩
          ·rw [if_neg c84] at H
           exact absurd H (by simp)
    ·rw [if_neg c8] at H
     exact absurd H (by simp)
   ·rw [if_neg c7] at H
    have c7b0 : decide (x8_1 < (a0.size : Int)) = false := decide_eq_false c7
    clear c7
    replace H := Option.bind_eq_some_iff.mp H
    obtain ⟨⟨t325, t326, t327, t328, t329, t330, t331, t332⟩, A860, H⟩ := H
    replace H : (some (t325, t326, t327, t328, t329, t330, t331, t332)) = some (r1, r2, r3, r4, r5, r6, r7, r8) := H
    have A86 := Aside0.mk A860
    clear A860
    simp only [Option.some.injEq, Prod.mk.injEq] at H
    obtain ⟨rfl, rfl, rfl, rfl, rfl, rfl, rfl, rfl⟩ := H
    go_wp2_with (first | ((with_reducible refine gate_callee (f := 34) rfl ?_); refine goesL_ (some 118) rfl rfl Tryd.func34 (by kernel_rfl) rfl #[.int .i64 61, .int .i64 a1] rfl x62_2 ?_; (with_reducible refine (casketref11_fault.calls 61 a1 t325 t326 t327 t328 t329 t330 t331 t332 _ A86.out).mono ?_); rintro e w87 ⟨rfl, hb⟩; refine ⟨_, rfl, ?_⟩; have n0_ := Aside0.mk (Kd.R_below x62_4 hb); have n1_ := Aside0.mk (blk_below (g := gb320) (o := .cells #[.int .i64 x321000_1, .int .i64 x321001_1, .string x321002_1, .int .i64 x321003_1, .int .u64 x321004_1] 30 (0, 0)) x62_5 hb); have n2_ := Aside0.mk (blk_below (g := gb321) (o := .cells #[.int .i64 x322000_1, .int .i64 x322001_1] 25 (0, 0)) x62_6 hb); have n3_ := Aside0.mk (below_step x62_0 hb); clear HO_7; clear BK320; clear BK321; clear HB; have HO_7 := n0_; have BK320 := n1_; have BK321 := n2_; have HB := n3_; clear n0_ n1_ n2_ n3_; have hnb88 := NB320_321.out; have hnc88 := NB321_320.out; have hcz89_0 : w87.cell? ⟨gb320, 0, none⟩ = some (.int .i64 x321000_1) := (blk_cell BK320.out 0).trans rfl; have hcz89_1 : w87.cell? ⟨gb320, 1, none⟩ = some (.int .i64 x321001_1) := (blk_cell BK320.out 1).trans rfl; have hcz89_2 : w87.cell? ⟨gb320, 2, none⟩ = some (.string x321002_1) := (blk_cell BK320.out 2).trans rfl; have hcz89_3 : w87.cell? ⟨gb320, 3, none⟩ = some (.int .i64 x321003_1) := (blk_cell BK320.out 3).trans rfl; have hcz89_4 : w87.cell? ⟨gb320, 4, none⟩ = some (.int .u64 x321004_1) := (blk_cell BK320.out 4).trans rfl; have hfz89_0 := blk_frozen BK320.out 0; have hfz89_1 := blk_frozen BK320.out 1; have hfz89_2 := blk_frozen BK320.out 2; have hfz89_3 := blk_frozen BK320.out 3; have hfz89_4 := blk_frozen BK320.out 4; have hcz90_0 : w87.cell? ⟨gb321, 0, none⟩ = some (.int .i64 x322000_1) := (blk_cell BK321.out 0).trans rfl; have hcz90_1 : w87.cell? ⟨gb321, 1, none⟩ = some (.int .i64 x322001_1) := (blk_cell BK321.out 1).trans rfl; have hfz90_0 := blk_frozen BK321.out 0; have hfz90_1 := blk_frozen BK321.out 1))
    refine bodyPost_ret (results_list (rs := [.cell 4 30, .tmp 5, .cell 6 25]) rfl (by simp) (.cell gb320 30 #[.int .i64 t325, .int .i64 t326, .string t327, .int .i64 t328, .int .u64 t329] (0, 0) _ rfl (by (with_reducible repeat first | apply blk_drewN | apply blk_drew | apply blk_alloc); refine blk_far ?_ NB320_321.out _; (with_reducible repeat first | apply blk_drewN | apply blk_drew | apply blk_alloc); refine blk_far ?_ NB320_321.out _; (with_reducible repeat first | apply blk_drewN | apply blk_drew | apply blk_alloc); refine blk_put (cs := #[.int .i64 t325, .int .i64 t326, .string t327, .int .i64 t328, .int .u64 x321004_1]) ?_ 4 _ rfl; (with_reducible repeat first | apply blk_drewN | apply blk_drew | apply blk_alloc); refine blk_put (cs := #[.int .i64 t325, .int .i64 t326, .string t327, .int .i64 x321003_1, .int .u64 x321004_1]) ?_ 3 _ rfl; (with_reducible repeat first | apply blk_drewN | apply blk_drew | apply blk_alloc); refine blk_put (cs := #[.int .i64 t325, .int .i64 t326, .string x321002_1, .int .i64 x321003_1, .int .u64 x321004_1]) ?_ 2 _ rfl; (with_reducible repeat first | apply blk_drewN | apply blk_drew | apply blk_alloc); refine blk_put (cs := #[.int .i64 t325, .int .i64 x321001_1, .string x321002_1, .int .i64 x321003_1, .int .u64 x321004_1]) ?_ 1 _ rfl; (with_reducible repeat first | apply blk_drewN | apply blk_drew | apply blk_alloc); refine blk_put (cs := #[.int .i64 x321000_1, .int .i64 x321001_1, .string x321002_1, .int .i64 x321003_1, .int .u64 x321004_1]) ?_ 0 _ rfl; (with_reducible repeat first | apply blk_drewN | apply blk_drew | apply blk_alloc); exact BK320.out) Tryd.underlying30 rfl (by kernel_rfl) (.tmp (.cell gb321 25 #[.int .i64 t331, .int .i64 t332] (0, 0) _ rfl (by (with_reducible repeat first | apply blk_drewN | apply blk_drew | apply blk_alloc); refine blk_put (cs := #[.int .i64 t331, .int .i64 x322001_1]) ?_ 1 _ rfl; (with_reducible repeat first | apply blk_drewN | apply blk_drew | apply blk_alloc); refine blk_put (cs := #[.int .i64 x322000_1, .int .i64 x322001_1]) ?_ 0 _ rfl; (with_reducible repeat first | apply blk_drewN | apply blk_drew | apply blk_alloc); refine blk_far ?_ NB321_320.out _; (with_reducible repeat first | apply blk_drewN | apply blk_drew | apply blk_alloc); refine blk_far ?_ NB321_320.out _; (with_reducible repeat first | apply blk_drewN | apply blk_drew | apply blk_alloc); refine blk_far ?_ NB321_320.out _; (with_reducible repeat first | apply blk_drewN | apply blk_drew | apply blk_alloc); refine blk_far ?_ NB321_320.out _; (with_reducible repeat first | apply blk_drewN | apply blk_drew | apply blk_alloc); refine blk_far ?_ NB321_320.out _; (with_reducible repeat first | apply blk_drewN | apply blk_drew | apply blk_alloc); exact BK321.out) Tryd.underlying25 rfl (by kernel_rfl) .nil)))) rfl ?_
    exact ⟨x62_7, x62_0⟩
end Go.Proofs.YtjolkombhdibcaaDoor.Print
end
section
namespace Go.Proofs.YtjolkombhdibcaaDoor.Print
open Go.RowKit Go.Proofs.YtjolkombhdibcaaDoor.Given Go.Proofs.YtjolkombhdibcaaDoorW.PrintWords Go.Proofs.YtjolkombhdibcaaDoorW.PrintLast Go.Proofs.YtjolkombhdibcaaDoorW.PrintMore
attribute [local go_sem] max2_int min2_int max_two min_two max_three min_three max_four min_four
set_option linter.unusedVariables false
set_option linter.unusedSimpArgs false
theorem x63_12 {p : Prop} (h : p := by first | rfl | (simp; done) | (simp [*]; done)) : p := h
theorem x63_11 {p : Prop} (h : p := by first | (with_reducible assumption) | assumption) : p := h
theorem x63_10 {p : Prop} (h : p := by repeat (first | exact Drawn0.refl _ | apply Drawn0.step)) : p := h
theorem x63_9 {p : Prop} (h : p := by first | rfl | (simp [errW_none, errW_some] <;> rfl) | (simp [*, errW_none, errW_some] <;> rfl)) : p := h
theorem x63_8 {p : Prop} (h : p := by (with_reducible repeat first | apply blk_drewN | apply blk_drew | apply blk_alloc); exact BK374.out) : p := h
theorem x63_7 {p : Prop} (h : p := by (with_reducible repeat first | apply blk_drewN | apply blk_drew | apply blk_alloc); exact BK373.out) : p := h
theorem x63_6 {p : Prop} (h : p := by rw [← hq_]; exact x63_8) : p := h
theorem x63_5 {p : Prop} (h : p := by rw [← hq_]; exact x63_7) : p := h
theorem x63_4 {p : Prop} (h : p := by repeat (first | (with_reducible first | exact HB.out | apply below_alloc | apply pw_below_drewN | apply below_drew1) | exact HB.out)) : p := h
theorem x63_3 {p : Prop} (h : p := by (try simp only [List.map_toArray, List.map_cons, List.map_nil]); first | done | rfl | (simp only [List.length_drop, List.length_take]; rfl)) : p := h
theorem x63_2 {p : Prop} (h : p := by repeat (first | (with_reducible first | exact HB.out | apply below_alloc | apply pw_below_drewN | apply below_drew1 | refine below_set ?_ GE373.out) | exact HB.out)) : p := h
theorem x63_1 {p : Prop} (h : p := by repeat (first | (with_reducible first | exact HB.out | apply below_alloc | apply pw_below_drewN | apply below_drew1 | refine below_set ?_ GE373.out | refine below_set ?_ GE374.out) | exact HB.out)) : p := h
theorem x63_0 {p : Prop} (h : p := by rw [← hq_]; exact x63_1) : p := h
def casketref11_mark.f (a0 : ByteArray) : Option (Bool) := if a0.toList = ([61, 61] : List UInt8) then (some true) else (if a0.toList = ([33, 61] : List UInt8) then (some true) else (if a0.toList = ([60, 61] : List UInt8) then (some true) else (if a0.toList = ([62, 61] : List UInt8) then (some true) else (if a0.toList = ([60, 60] : List UInt8) then (some true) else (if a0.toList = ([62, 62] : List UInt8) then (some true) else (if a0.toList = ([47, 47] : List UInt8) then (some true) else (if a0.toList = ([46, 46] : List UInt8) then (some true) else (if a0.toList = ([43] : List UInt8) then (some true) else (if a0.toList = ([45] : List UInt8) then (some true) else (if a0.toList = ([42] : List UInt8) then (some true) else (if a0.toList = ([47] : List UInt8) then (some true) else (if a0.toList = ([37] : List UInt8) then (some true) else (if a0.toList = ([38] : List UInt8) then (some true) else (if a0.toList = ([124] : List UInt8) then (some true) else (if a0.toList = ([94] : List UInt8) then (some true) else (if a0.toList = ([126] : List UInt8) then (some true) else (if a0.toList = ([60] : List UInt8) then (some true) else (if a0.toList = ([62] : List UInt8) then (some true) else (if a0.toList = ([61] : List UInt8) then (some true) else (if a0.toList = ([40] : List UInt8) then (some true) else (if a0.toList = ([41] : List UInt8) then (some true) else (if a0.toList = ([123] : List UInt8) then (some true) else (if a0.toList = ([125] : List UInt8) then (some true) else (if a0.toList = ([91] : List UInt8) then (some true) else (if a0.toList = ([93] : List UInt8) then (some true) else (if a0.toList = ([44] : List UInt8) then (some true) else (if a0.toList = ([59] : List UInt8) then (some true) else (if a0.toList = ([58] : List UInt8) then (some true) else (some false)))))))))))))))))))))))))))))
set_option maxHeartbeats 8000000 in
set_option maxRecDepth 100000 in
theorem casketref11_mark.calls (a0 : ByteArray) (r : Bool) (w : World) (h : casketref11_mark.f a0 = some r) :
  Calls Tryd.prog 33 #[.string a0] w fun e w' => e = .returned (.bool r) ∧ Drawn0 w w' := by
 have H : (if a0.toList = ([61, 61] : List UInt8) then (some true) else (if a0.toList = ([33, 61] : List UInt8) then (some true) else (if a0.toList = ([60, 61] : List UInt8) then (some true) else (if a0.toList = ([62, 61] : List UInt8) then (some true) else (if a0.toList = ([60, 60] : List UInt8) then (some true) else (if a0.toList = ([62, 62] : List UInt8) then (some true) else (if a0.toList = ([47, 47] : List UInt8) then (some true) else (if a0.toList = ([46, 46] : List UInt8) then (some true) else (if a0.toList = ([43] : List UInt8) then (some true) else (if a0.toList = ([45] : List UInt8) then (some true) else (if a0.toList = ([42] : List UInt8) then (some true) else (if a0.toList = ([47] : List UInt8) then (some true) else (if a0.toList = ([37] : List UInt8) then (some true) else (if a0.toList = ([38] : List UInt8) then (some true) else (if a0.toList = ([124] : List UInt8) then (some true) else (if a0.toList = ([94] : List UInt8) then (some true) else (if a0.toList = ([126] : List UInt8) then (some true) else (if a0.toList = ([60] : List UInt8) then (some true) else (if a0.toList = ([62] : List UInt8) then (some true) else (if a0.toList = ([61] : List UInt8) then (some true) else (if a0.toList = ([40] : List UInt8) then (some true) else (if a0.toList = ([41] : List UInt8) then (some true) else (if a0.toList = ([123] : List UInt8) then (some true) else (if a0.toList = ([125] : List UInt8) then (some true) else (if a0.toList = ([91] : List UInt8) then (some true) else (if a0.toList = ([93] : List UInt8) then (some true) else (if a0.toList = ([44] : List UInt8) then (some true) else (if a0.toList = ([59] : List UInt8) then (some true) else (if a0.toList = ([58] : List UInt8) then (some true) else (some false)))))))))))))))))))))))))))))) = some r := h
 clear h
 by_cases c2 : a0.toList = ([61, 61] : List UInt8)
 ·rw [if_pos c2] at H
  have c2b0 : (a0.toList == ([61, 61] : List UInt8)) = true := beq_iff_eq.mpr c2
  have c2b1 : (a0.toList != ([61, 61] : List UInt8)) = false := bne_eq_false_iff_eq.mpr c2
  clear c2
  obtain rfl := Option.some.inj H
  go_enter Tryd.func33, Tryd.ntmps33
  go_wp2
  go_ret
  exact ⟨x63_12, x63_10⟩
 ·rw [if_neg c2] at H
  have c2b0 : (a0.toList == ([61, 61] : List UInt8)) = false := beq_eq_false_iff_ne.mpr c2
  have c2b1 : (a0.toList != ([61, 61] : List UInt8)) = true := bne_iff_ne.mpr c2
  by_cases c3 : a0.toList = ([33, 61] : List UInt8)
  ·rw [if_pos c3] at H
   have c3b0 : (a0.toList == ([33, 61] : List UInt8)) = true := beq_iff_eq.mpr c3
   have c3b1 : (a0.toList != ([33, 61] : List UInt8)) = false := bne_eq_false_iff_eq.mpr c3
   clear c3
   obtain rfl := Option.some.inj H
   go_enter Tryd.func33, Tryd.ntmps33
   go_wp2
   go_ret
   exact ⟨x63_12, x63_10⟩
  ·rw [if_neg c3] at H
   have c3b0 : (a0.toList == ([33, 61] : List UInt8)) = false := beq_eq_false_iff_ne.mpr c3
   have c3b1 : (a0.toList != ([33, 61] : List UInt8)) = true := bne_iff_ne.mpr c3
   by_cases c4 : a0.toList = ([60, 61] : List UInt8)
   ·rw [if_pos c4] at H
    have c4b0 : (a0.toList == ([60, 61] : List UInt8)) = true := beq_iff_eq.mpr c4
    have c4b1 : (a0.toList != ([60, 61] : List UInt8)) = false := bne_eq_false_iff_eq.mpr c4
    clear c4
    obtain rfl := Option.some.inj H
    go_enter Tryd.func33, Tryd.ntmps33
    go_wp2
    go_ret
    exact ⟨x63_12, x63_10⟩
   ·rw [if_neg c4] at H
    have c4b0 : (a0.toList == ([60, 61] : List UInt8)) = false := beq_eq_false_iff_ne.mpr c4
    have c4b1 : (a0.toList != ([60, 61] : List UInt8)) = true := bne_iff_ne.mpr c4
    by_cases c5 : a0.toList = ([62, 61] : List UInt8)
    ·rw [if_pos c5] at H
     have c5b0 : (a0.toList == ([62, 61] : List UInt8)) = true := beq_iff_eq.mpr c5
     have c5b1 : (a0.toList != ([62, 61] : List UInt8)) = false := bne_eq_false_iff_eq.mpr c5
     clear c5
     obtain rfl := Option.some.inj H
     go_enter Tryd.func33, Tryd.ntmps33
     go_wp2
     go_ret
     exact ⟨x63_12, x63_10⟩
    ·rw [if_neg c5] at H
     have c5b0 : (a0.toList == ([62, 61] : List UInt8)) = false := beq_eq_false_iff_ne.mpr c5
     have c5b1 : (a0.toList != ([62, 61] : List UInt8)) = true := bne_iff_ne.mpr c5
     by_cases c6 : a0.toList = ([60, 60] : List UInt8)
     ·rw [if_pos c6] at H
      have c6b0 : (a0.toList == ([60, 60] : List UInt8)) = true := beq_iff_eq.mpr c6
      have c6b1 : (a0.toList != ([60, 60] : List UInt8)) = false := bne_eq_false_iff_eq.mpr c6
      clear c6
      obtain rfl := Option.some.inj H
      go_enter Tryd.func33, Tryd.ntmps33
      go_wp2
      go_ret
      exact ⟨x63_12, x63_10⟩
     ·rw [if_neg c6] at H
      have c6b0 : (a0.toList == ([60, 60] : List UInt8)) = false := beq_eq_false_iff_ne.mpr c6
      have c6b1 : (a0.toList != ([60, 60] : List UInt8)) = true := bne_iff_ne.mpr c6
      by_cases c7 : a0.toList = ([62, 62] : List UInt8)
      ·rw [if_pos c7] at H
       have c7b0 : (a0.toList == ([62, 62] : List UInt8)) = true := beq_iff_eq.mpr c7
       have c7b1 : (a0.toList != ([62, 62] : List UInt8)) = false := bne_eq_false_iff_eq.mpr c7
       clear c7
       obtain rfl := Option.some.inj H
       go_enter Tryd.func33, Tryd.ntmps33
       go_wp2
       go_ret
       exact ⟨x63_12, x63_10⟩
      ·rw [if_neg c7] at H
       have c7b0 : (a0.toList == ([62, 62] : List UInt8)) = false := beq_eq_false_iff_ne.mpr c7
       have c7b1 : (a0.toList != ([62, 62] : List UInt8)) = true := bne_iff_ne.mpr c7
       by_cases c8 : a0.toList = ([47, 47] : List UInt8)
       ·rw [if_pos c8] at H
        have c8b0 : (a0.toList == ([47, 47] : List UInt8)) = true := beq_iff_eq.mpr c8
        have c8b1 : (a0.toList != ([47, 47] : List UInt8)) = false := bne_eq_false_iff_eq.mpr c8
        clear c8
        obtain rfl := Option.some.inj H
        go_enter Tryd.func33, Tryd.ntmps33
        go_wp2
        go_ret
        exact ⟨x63_12, x63_10⟩
       ·rw [if_neg c8] at H
        have c8b0 : (a0.toList == ([47, 47] : List UInt8)) = false := beq_eq_false_iff_ne.mpr c8
        have c8b1 : (a0.toList != ([47, 47] : List UInt8)) = true := bne_iff_ne.mpr c8
        by_cases c9 : a0.toList = ([46, 46] : List UInt8)
        ·rw [if_pos c9] at H
         have c9b0 : (a0.toList == ([46, 46] : List UInt8)) = true := beq_iff_eq.mpr c9
         have c9b1 : (a0.toList != ([46, 46] : List UInt8)) = false := bne_eq_false_iff_eq.mpr c9
         clear c9
         obtain rfl := Option.some.inj H
         go_enter Tryd.func33, Tryd.ntmps33
         go_wp2
         go_ret
         exact ⟨x63_12, x63_10⟩
        ·rw [if_neg c9] at H
         have c9b0 : (a0.toList == ([46, 46] : List UInt8)) = false := beq_eq_false_iff_ne.mpr c9
         have c9b1 : (a0.toList != ([46, 46] : List UInt8)) = true := bne_iff_ne.mpr c9
         by_cases c10 : a0.toList = ([43] : List UInt8)
         ·rw [if_pos c10] at H
          have c10b0 : (a0.toList == ([43] : List UInt8)) = true := beq_iff_eq.mpr c10
          have c10b1 : (a0.toList != ([43] : List UInt8)) = false := bne_eq_false_iff_eq.mpr c10
          clear c10
          obtain rfl := Option.some.inj H
          go_enter Tryd.func33, Tryd.ntmps33
          go_wp2
          go_ret
          exact ⟨x63_12, x63_10⟩
         ·rw [if_neg c10] at H
          have c10b0 : (a0.toList == ([43] : List UInt8)) = false := beq_eq_false_iff_ne.mpr c10
          have c10b1 : (a0.toList != ([43] : List UInt8)) = true := bne_iff_ne.mpr c10
          by_cases c11 : a0.toList = ([45] : List UInt8)
          ·rw [if_pos c11] at H
           have c11b0 : (a0.toList == ([45] : List UInt8)) = true := beq_iff_eq.mpr c11
           have c11b1 : (a0.toList != ([45] : List UInt8)) = false := bne_eq_false_iff_eq.mpr c11
           clear c11
           obtain rfl := Option.some.inj H
           go_enter Tryd.func33, Tryd.ntmps33
           go_wp2
           go_ret
           exact ⟨x63_12, x63_10⟩
          ·rw [if_neg c11] at H
           have c11b0 : (a0.toList == ([45] : List UInt8)) = false := beq_eq_false_iff_ne.mpr c11
           have c11b1 : (a0.toList != ([45] : List UInt8)) = true := bne_iff_ne.mpr c11
           by_cases c12 : a0.toList = ([42] : List UInt8)
           ·rw [if_pos c12] at H
            have c12b0 : (a0.toList == ([42] : List UInt8)) = true := beq_iff_eq.mpr c12
            have c12b1 : (a0.toList != ([42] : List UInt8)) = false := bne_eq_false_iff_eq.mpr c12
            clear c12
            obtain rfl := Option.some.inj H
            go_enter Tryd.func33, Tryd.ntmps33
            go_wp2
            go_ret
            exact ⟨x63_12, x63_10⟩
           ·rw [if_neg c12] at H
            have c12b0 : (a0.toList == ([42] : List UInt8)) = false := beq_eq_false_iff_ne.mpr c12
            have c12b1 : (a0.toList != ([42] : List UInt8)) = true := bne_iff_ne.mpr c12
            by_cases c13 : a0.toList = ([47] : List UInt8)
            ·rw [if_pos c13] at H
             have c13b0 : (a0.toList == ([47] : List UInt8)) = true := beq_iff_eq.mpr c13
             have c13b1 : (a0.toList != ([47] : List UInt8)) = false := bne_eq_false_iff_eq.mpr c13
             clear c13
             obtain rfl := Option.some.inj H
             go_enter Tryd.func33, Tryd.ntmps33
             go_wp2
             go_ret
             exact ⟨x63_12, x63_10⟩
            ·rw [if_neg c13] at H
             have c13b0 : (a0.toList == ([47] : List UInt8)) = false := beq_eq_false_iff_ne.mpr c13
             have c13b1 : (a0.toList != ([47] : List UInt8)) = true := bne_iff_ne.mpr c13
             by_cases c14 : a0.toList = ([37] : List UInt8)
             ·rw [if_pos c14] at H
              have c14b0 : (a0.toList == ([37] : List UInt8)) = true := beq_iff_eq.mpr c14
              have c14b1 : (a0.toList != ([37] : List UInt8)) = false := bne_eq_false_iff_eq.mpr c14
              clear c14
              obtain rfl := Option.some.inj H
              go_enter Tryd.func33, Tryd.ntmps33
              go_wp2
              go_ret
              exact ⟨x63_12, x63_10⟩
             ·rw [if_neg c14] at H
              have c14b0 : (a0.toList == ([37] : List UInt8)) = false := beq_eq_false_iff_ne.mpr c14
              have c14b1 : (a0.toList != ([37] : List UInt8)) = true := bne_iff_ne.mpr c14
              by_cases c15 : a0.toList = ([38] : List UInt8)
              ·rw [if_pos c15] at H
               have c15b0 : (a0.toList == ([38] : List UInt8)) = true := beq_iff_eq.mpr c15
               have c15b1 : (a0.toList != ([38] : List UInt8)) = false := bne_eq_false_iff_eq.mpr c15
               clear c15
               obtain rfl := Option.some.inj H
               go_enter Tryd.func33, Tryd.ntmps33
               go_wp2
               go_ret
               exact ⟨x63_12, x63_10⟩
              ·rw [if_neg c15] at H
               have c15b0 : (a0.toList == ([38] : List UInt8)) = false := beq_eq_false_iff_ne.mpr c15
               have c15b1 : (a0.toList != ([38] : List UInt8)) = true := bne_iff_ne.mpr c15
               by_cases c16 : a0.toList = ([124] : List UInt8)
               ·rw [if_pos c16] at H
                have c16b0 : (a0.toList == ([124] : List UInt8)) = true := beq_iff_eq.mpr c16
                have c16b1 : (a0.toList != ([124] : List UInt8)) = false := bne_eq_false_iff_eq.mpr c16
                clear c16
                obtain rfl := Option.some.inj H
                go_enter Tryd.func33, Tryd.ntmps33
                go_wp2
                go_ret
                exact ⟨x63_12, x63_10⟩
               ·rw [if_neg c16] at H
                have c16b0 : (a0.toList == ([124] : List UInt8)) = false := beq_eq_false_iff_ne.mpr c16
                have c16b1 : (a0.toList != ([124] : List UInt8)) = true := bne_iff_ne.mpr c16
                by_cases c17 : a0.toList = ([94] : List UInt8)
                ·rw [if_pos c17] at H
                 have c17b0 : (a0.toList == ([94] : List UInt8)) = true := beq_iff_eq.mpr c17
                 have c17b1 : (a0.toList != ([94] : List UInt8)) = false := bne_eq_false_iff_eq.mpr c17
                 clear c17
                 obtain rfl := Option.some.inj H
                 go_enter Tryd.func33, Tryd.ntmps33
                 go_wp2
                 go_ret
                 exact ⟨x63_12, x63_10⟩
                ·rw [if_neg c17] at H
                 have c17b0 : (a0.toList == ([94] : List UInt8)) = false := beq_eq_false_iff_ne.mpr c17
                 have c17b1 : (a0.toList != ([94] : List UInt8)) = true := bne_iff_ne.mpr c17
                 by_cases c18 : a0.toList = ([126] : List UInt8)
                 ·rw [if_pos c18] at H
                  have c18b0 : (a0.toList == ([126] : List UInt8)) = true := beq_iff_eq.mpr c18
                  have c18b1 : (a0.toList != ([126] : List UInt8)) = false := bne_eq_false_iff_eq.mpr c18
                  clear c18
                  obtain rfl := Option.some.inj H
                  go_enter Tryd.func33, Tryd.ntmps33
                  go_wp2
                  go_ret
                  exact ⟨x63_12, x63_10⟩
                 ·rw [if_neg c18] at H
                  have c18b0 : (a0.toList == ([126] : List UInt8)) = false := beq_eq_false_iff_ne.mpr c18
                  have c18b1 : (a0.toList != ([126] : List UInt8)) = true := bne_iff_ne.mpr c18
                  by_cases c19 : a0.toList = ([60] : List UInt8)
                  ·rw [if_pos c19] at H
                   have c19b0 : (a0.toList == ([60] : List UInt8)) = true := beq_iff_eq.mpr c19
                   have c19b1 : (a0.toList != ([60] : List UInt8)) = false := bne_eq_false_iff_eq.mpr c19
                   clear c19
                   obtain rfl := Option.some.inj H
                   go_enter Tryd.func33, Tryd.ntmps33
                   go_wp2
                   go_ret
                   exact ⟨x63_12, x63_10⟩
                  ·rw [if_neg c19] at H
                   have c19b0 : (a0.toList == ([60] : List UInt8)) = false := beq_eq_false_iff_ne.mpr c19
                   have c19b1 : (a0.toList != ([60] : List UInt8)) = true := bne_iff_ne.mpr c19
                   by_cases c20 : a0.toList = ([62] : List UInt8)
                   ·rw [if_pos c20] at H
                    have c20b0 : (a0.toList == ([62] : List UInt8)) = true := beq_iff_eq.mpr c20
                    have c20b1 : (a0.toList != ([62] : List UInt8)) = false := bne_eq_false_iff_eq.mpr c20
                    clear c20
                    obtain rfl := Option.some.inj H
                    go_enter Tryd.func33, Tryd.ntmps33
                    go_wp2
                    go_ret
                    exact ⟨x63_12, x63_10⟩
                   ·rw [if_neg c20] at H
                    have c20b0 : (a0.toList == ([62] : List UInt8)) = false := beq_eq_false_iff_ne.mpr c20
                    have c20b1 : (a0.toList != ([62] : List UInt8)) = true := bne_iff_ne.mpr c20
                    by_cases c21 : a0.toList = ([61] : List UInt8)
                    ·rw [if_pos c21] at H
                     have c21b0 : (a0.toList == ([61] : List UInt8)) = true := beq_iff_eq.mpr c21
                     have c21b1 : (a0.toList != ([61] : List UInt8)) = false := bne_eq_false_iff_eq.mpr c21
                     clear c21
                     obtain rfl := Option.some.inj H
                     go_enter Tryd.func33, Tryd.ntmps33
                     go_wp2
                     go_ret
                     exact ⟨x63_12, x63_10⟩
                    ·rw [if_neg c21] at H
                     have c21b0 : (a0.toList == ([61] : List UInt8)) = false := beq_eq_false_iff_ne.mpr c21
                     have c21b1 : (a0.toList != ([61] : List UInt8)) = true := bne_iff_ne.mpr c21
                     by_cases c22 : a0.toList = ([40] : List UInt8)
                     ·rw [if_pos c22] at H
                      have c22b0 : (a0.toList == ([40] : List UInt8)) = true := beq_iff_eq.mpr c22
                      have c22b1 : (a0.toList != ([40] : List UInt8)) = false := bne_eq_false_iff_eq.mpr c22
                      clear c22
                      obtain rfl := Option.some.inj H
                      go_enter Tryd.func33, Tryd.ntmps33
                      go_wp2
                      go_ret
                      exact ⟨x63_12, x63_10⟩
                     ·rw [if_neg c22] at H
                      have c22b0 : (a0.toList == ([40] : List UInt8)) = false := beq_eq_false_iff_ne.mpr c22
                      have c22b1 : (a0.toList != ([40] : List UInt8)) = true := bne_iff_ne.mpr c22
                      by_cases c23 : a0.toList = ([41] : List UInt8)
                      ·rw [if_pos c23] at H
                       have c23b0 : (a0.toList == ([41] : List UInt8)) = true := beq_iff_eq.mpr c23
                       have c23b1 : (a0.toList != ([41] : List UInt8)) = false := bne_eq_false_iff_eq.mpr c23
                       clear c23
                       obtain rfl := Option.some.inj H
                       go_enter Tryd.func33, Tryd.ntmps33
                       go_wp2
                       go_ret
                       exact ⟨x63_12, x63_10⟩
                      ·rw [if_neg c23] at H
                       have c23b0 : (a0.toList == ([41] : List UInt8)) = false := beq_eq_false_iff_ne.mpr c23
                       have c23b1 : (a0.toList != ([41] : List UInt8)) = true := bne_iff_ne.mpr c23
                       by_cases c24 : a0.toList = ([123] : List UInt8)
                       ·rw [if_pos c24] at H
                        have c24b0 : (a0.toList == ([123] : List UInt8)) = true := beq_iff_eq.mpr c24
                        have c24b1 : (a0.toList != ([123] : List UInt8)) = false := bne_eq_false_iff_eq.mpr c24
                        clear c24
                        obtain rfl := Option.some.inj H
                        go_enter Tryd.func33, Tryd.ntmps33
                        go_wp2
                        go_ret
                        exact ⟨x63_12, x63_10⟩
                       ·rw [if_neg c24] at H
                        have c24b0 : (a0.toList == ([123] : List UInt8)) = false := beq_eq_false_iff_ne.mpr c24
                        have c24b1 : (a0.toList != ([123] : List UInt8)) = true := bne_iff_ne.mpr c24
                        by_cases c25 : a0.toList = ([125] : List UInt8)
                        ·rw [if_pos c25] at H
                         have c25b0 : (a0.toList == ([125] : List UInt8)) = true := beq_iff_eq.mpr c25
                         have c25b1 : (a0.toList != ([125] : List UInt8)) = false := bne_eq_false_iff_eq.mpr c25
                         clear c25
                         obtain rfl := Option.some.inj H
                         go_enter Tryd.func33, Tryd.ntmps33
                         go_wp2
                         go_ret
                         exact ⟨x63_12, x63_10⟩
                        ·rw [if_neg c25] at H
                         have c25b0 : (a0.toList == ([125] : List UInt8)) = false := beq_eq_false_iff_ne.mpr c25
                         have c25b1 : (a0.toList != ([125] : List UInt8)) = true := bne_iff_ne.mpr c25
                         by_cases c26 : a0.toList = ([91] : List UInt8)
                         ·rw [if_pos c26] at H
                          have c26b0 : (a0.toList == ([91] : List UInt8)) = true := beq_iff_eq.mpr c26
                          have c26b1 : (a0.toList != ([91] : List UInt8)) = false := bne_eq_false_iff_eq.mpr c26
                          clear c26
                          obtain rfl := Option.some.inj H
                          go_enter Tryd.func33, Tryd.ntmps33
                          go_wp2
                          go_ret
                          exact ⟨x63_12, x63_10⟩
                         ·rw [if_neg c26] at H
                          have c26b0 : (a0.toList == ([91] : List UInt8)) = false := beq_eq_false_iff_ne.mpr c26
                          have c26b1 : (a0.toList != ([91] : List UInt8)) = true := bne_iff_ne.mpr c26
                          by_cases c27 : a0.toList = ([93] : List UInt8)
                          ·rw [if_pos c27] at H
                           have c27b0 : (a0.toList == ([93] : List UInt8)) = true := beq_iff_eq.mpr c27
                           have c27b1 : (a0.toList != ([93] : List UInt8)) = false := bne_eq_false_iff_eq.mpr c27
                           clear c27
                           obtain rfl := Option.some.inj H
                           go_enter Tryd.func33, Tryd.ntmps33
                           go_wp2
                           go_ret
                           exact ⟨x63_12, x63_10⟩
                          ·rw [if_neg c27] at H
                           have c27b0 : (a0.toList == ([93] : List UInt8)) = false := beq_eq_false_iff_ne.mpr c27
                           have c27b1 : (a0.toList != ([93] : List UInt8)) = true := bne_iff_ne.mpr c27
                           by_cases c28 : a0.toList = ([44] : List UInt8)
                           ·rw [if_pos c28] at H
                            have c28b0 : (a0.toList == ([44] : List UInt8)) = true := beq_iff_eq.mpr c28
                            have c28b1 : (a0.toList != ([44] : List UInt8)) = false := bne_eq_false_iff_eq.mpr c28
                            clear c28
                            obtain rfl := Option.some.inj H
                            go_enter Tryd.func33, Tryd.ntmps33
                            go_wp2
                            go_ret
                            exact ⟨x63_12, x63_10⟩
                           ·rw [if_neg c28] at H
                            have c28b0 : (a0.toList == ([44] : List UInt8)) = false := beq_eq_false_iff_ne.mpr c28
                            have c28b1 : (a0.toList != ([44] : List UInt8)) = true := bne_iff_ne.mpr c28
                            by_cases c29 : a0.toList = ([59] : List UInt8)
                            ·rw [if_pos c29] at H
                             have c29b0 : (a0.toList == ([59] : List UInt8)) = true := beq_iff_eq.mpr c29
                             have c29b1 : (a0.toList != ([59] : List UInt8)) = false := bne_eq_false_iff_eq.mpr c29
                             clear c29
                             obtain rfl := Option.some.inj H
                             go_enter Tryd.func33, Tryd.ntmps33
                             go_wp2
                             go_ret
                             exact ⟨x63_12, x63_10⟩
                            ·rw [if_neg c29] at H
                             have c29b0 : (a0.toList == ([59] : List UInt8)) = false := beq_eq_false_iff_ne.mpr c29
                             have c29b1 : (a0.toList != ([59] : List UInt8)) = true := bne_iff_ne.mpr c29
                             by_cases c30 : a0.toList = ([58] : List UInt8)
                             ·rw [if_pos c30] at H
                              have c30b0 : (a0.toList == ([58] : List UInt8)) = true := beq_iff_eq.mpr c30
                              have c30b1 : (a0.toList != ([58] : List UInt8)) = false := bne_eq_false_iff_eq.mpr c30
                              clear c30
                              obtain rfl := Option.some.inj H
                              go_enter Tryd.func33, Tryd.ntmps33
                              go_wp2
                              go_ret
                              exact ⟨x63_12, x63_10⟩
                             ·rw [if_neg c30] at H
                              have c30b0 : (a0.toList == ([58] : List UInt8)) = false := beq_eq_false_iff_ne.mpr c30
                              have c30b1 : (a0.toList != ([58] : List UInt8)) = true := bne_iff_ne.mpr c30
                              obtain rfl := Option.some.inj H
                              go_enter Tryd.func33, Tryd.ntmps33
                              go_wp2
                              go_ret
                              exact ⟨x63_12, x63_10⟩
def casketref11_Next.l0 : Nat → ByteArray → Int → Int → Option (Int × Int × ByteArray × Int × Int × Int × Int × Int)
 | 0, _, _, _ => none
 | k + 1, x0, x1, x8 => if x8 ≥ 1 then (if (wrap64 (x1 + x8)) ≤ (x0.size : Int) then (if 0 ≤ x1 then (if x1 ≤ (wrap64 (x1 + x8)) then ((casketref11_mark.f (x0.extract (x1 : Int).toNat ((wrap64 (x1 + x8)) : Int).toNat)).bind fun t401 => (if t401 = true then (some (3, x1, x0.extract (x1 : Int).toNat ((wrap64 (x1 + x8)) : Int).toNat, 0, 0, wrap64 (x1 + x8), 0, 0)) else (casketref11_Next.l0 k x0 x1 (wrap64 (x8 - 1))))) else (none)) else (none)) else (casketref11_Next.l0 k x0 x1 (wrap64 (x8 - 1)))) else ((casketref11_fault.f 60 x1).bind fun bt402 => (some (bt402.1, bt402.2.1, bt402.2.2.1, bt402.2.2.2.1, bt402.2.2.2.2.1, bt402.2.2.2.2.2.1, bt402.2.2.2.2.2.2.1, bt402.2.2.2.2.2.2.2)))
def casketref11_Next.f (k : Nat) (a0 : ByteArray) (a1 : Int) : Option (Int × Int × ByteArray × Int × Int × Int × Int × Int) := if a1 = (a0.size : Int) then (some (7, a1, (⟨#[]⟩ : ByteArray), 0, 0, a1, 0, 0)) else (if 0 ≤ a1 then (if a1 < (a0.size : Int) then ((casketref11_starts.f (bt a0 a1)).bind fun t375 => (if t375 = true then ((casketref11_name.f k a0 a1).bind fun bt376 => (some (bt376.1, bt376.2.1, bt376.2.2.1, bt376.2.2.2.1, bt376.2.2.2.2.1, bt376.2.2.2.2.2.1, bt376.2.2.2.2.2.2.1, bt376.2.2.2.2.2.2.2))) else ((casketref11_digit.f (bt a0 a1)).bind fun t384 => (if t384 = true then ((casketref11_number.f k a0 a1).bind fun bt385 => (some (bt385.1, bt385.2.1, bt385.2.2.1, bt385.2.2.2.1, bt385.2.2.2.2.1, bt385.2.2.2.2.2.1, bt385.2.2.2.2.2.2.1, bt385.2.2.2.2.2.2.2))) else (if (bt a0 a1) = 34 then ((casketref11_text.f k a0 a1).bind fun bt393 => (some (bt393.1, bt393.2.1, bt393.2.2.1, bt393.2.2.2.1, bt393.2.2.2.2.1, bt393.2.2.2.2.2.1, bt393.2.2.2.2.2.2.1, bt393.2.2.2.2.2.2.2))) else (casketref11_Next.l0 k a0 a1 2)))))) else (none)) else (none))
set_option maxHeartbeats 8000000 in
set_option maxRecDepth 100000 in
theorem casketref11_Next.calls (k : Nat) (a0 : ByteArray) (a1 : Int) (r1 : Int) (r2 : Int) (r3 : ByteArray) (r4 : Int) (r5 : Int) (r6 : Int) (r7 : Int) (r8 : Int) (w : World) (h : casketref11_Next.f k a0 a1 = some (r1, r2, r3, r4, r5, r6, r7, r8)) :
  Calls Tryd.prog 16 #[.string a0, .int .i64 a1] w fun e w' => e = .returned (.tuple #[.agg #[.int .i64 r1, .int .i64 r2, .string r3, .int .i64 r4, .int .u64 r5], .int .i64 r6, .agg #[.int .i64 r7, .int .i64 r8]]) ∧ Below w.heap.size w w' := by
 have hu30 := Tryd.underlying30
 have hu25 := Tryd.underlying25
 have HB := Aside0.mk (Below.refl w.heap.size w)
 have H : (if a1 = (a0.size : Int) then (some (7, a1, (⟨#[]⟩ : ByteArray), 0, 0, a1, 0, 0)) else (if 0 ≤ a1 then (if a1 < (a0.size : Int) then ((casketref11_starts.f (bt a0 a1)).bind fun t375 => (if t375 = true then ((casketref11_name.f k a0 a1).bind fun bt376 => (some (bt376.1, bt376.2.1, bt376.2.2.1, bt376.2.2.2.1, bt376.2.2.2.2.1, bt376.2.2.2.2.2.1, bt376.2.2.2.2.2.2.1, bt376.2.2.2.2.2.2.2))) else ((casketref11_digit.f (bt a0 a1)).bind fun t384 => (if t384 = true then ((casketref11_number.f k a0 a1).bind fun bt385 => (some (bt385.1, bt385.2.1, bt385.2.2.1, bt385.2.2.2.1, bt385.2.2.2.2.1, bt385.2.2.2.2.2.1, bt385.2.2.2.2.2.2.1, bt385.2.2.2.2.2.2.2))) else (if (bt a0 a1) = 34 then ((casketref11_text.f k a0 a1).bind fun bt393 => (some (bt393.1, bt393.2.1, bt393.2.2.1, bt393.2.2.2.1, bt393.2.2.2.2.1, bt393.2.2.2.2.2.1, bt393.2.2.2.2.2.2.1, bt393.2.2.2.2.2.2.2))) else (casketref11_Next.l0 k a0 a1 2)))))) else (none)) else (none))) = some (r1, r2, r3, r4, r5, r6, r7, r8) := h
 clear h
 by_cases c3 : a1 = (a0.size : Int)
 ·rw [if_pos c3] at H
  have c3b0 : (a1 == (a0.size : Int)) = true := beq_iff_eq.mpr c3
  have c3b1 : (a1 != (a0.size : Int)) = false := bne_eq_false_iff_eq.mpr c3
  clear c3
  simp only [Option.some.injEq, Prod.mk.injEq] at H
  obtain ⟨rfl, rfl, rfl, rfl, rfl, rfl, rfl, rfl⟩ := H
  go_enter Tryd.func16, Tryd.ntmps16
  go_wp2_with (first | ((with_reducible refine gate_dst (N := 4) rfl ?_); refine box_event ?hg (N := 4) ?hd (cs := #[.int .i64 0, .int .i64 0, .string (⟨#[]⟩ : ByteArray), .int .i64 0, .int .u64 0]) (t := 30) ?hr ?_; (case hd => rfl); (case hg => rfl); (case hr => first | (go_simp; done) | (go_simp; rfl)); intro gb373 hg w4 hbox hb; have n0_ := Aside0.mk (below_step x63_4 hb); have n1_ := Aside0.mk (hbox); have n2_ := Aside0.mk ((by rw [hg]; exact (below_size x63_4) : w.heap.size ≤ gb373)); have n3_ := Aside0.mk ((by rw [hg]; exact (below_size x63_4) : w.heap.size ≤ gb373)); clear HB; have HB := n0_; have BK373 := n1_; have GW373 := n2_; have GE373 := n3_; clear n0_ n1_ n2_ n3_; clear hb hbox hg) | ((with_reducible refine gate_dst (N := 6) rfl ?_); refine box_event ?hg (N := 6) ?hd (cs := #[.int .i64 0, .int .i64 0]) (t := 25) ?hr ?_; (case hd => rfl); (case hg => rfl); (case hr => first | (go_simp; done) | (go_simp; rfl)); intro gb374 hg w5 hbox hb; have n0_ := Aside0.mk (blk_below (g := gb373) (o := .cells #[.int .i64 0, .int .i64 0, .string (⟨#[]⟩ : ByteArray), .int .i64 0, .int .u64 0] 30 (0, 0)) x63_7 hb); have n1_ := Aside0.mk (below_step x63_2 hb); have n2_ := Aside0.mk (hbox); have n3_ := Aside0.mk ((by rw [hg]; exact (below_size x63_2) : w.heap.size ≤ gb374)); have n4_ := Aside0.mk ((by rw [hg]; exact (below_size x63_2) : w.heap.size ≤ gb374)); have n5_ := Aside0.mk ((by rw [hg]; exact Nat.ne_of_lt (blk_lt (g := gb373) (o := .cells #[.int .i64 0, .int .i64 0, .string (⟨#[]⟩ : ByteArray), .int .i64 0, .int .u64 0] 30 (0, 0)) x63_7) : gb373 ≠ gb374)); have n6_ := Aside0.mk ((by rw [hg]; exact Nat.ne_of_gt (blk_lt (g := gb373) (o := .cells #[.int .i64 0, .int .i64 0, .string (⟨#[]⟩ : ByteArray), .int .i64 0, .int .u64 0] 30 (0, 0)) x63_7) : gb374 ≠ gb373)); clear BK373; clear HB; have BK373 := n0_; have HB := n1_; have BK374 := n2_; have GW374 := n3_; have GE374 := n4_; have NB373_374 := n5_; have NB374_373 := n6_; clear n0_ n1_ n2_ n3_ n4_ n5_ n6_; clear hb hbox hg; have hnb6 := NB373_374.out; have hnc6 := NB374_373.out; have hcz7_0 : w5.cell? ⟨gb373, 0, none⟩ = some (.int .i64 0) := (blk_cell BK373.out 0).trans rfl; have hcz7_1 : w5.cell? ⟨gb373, 1, none⟩ = some (.int .i64 0) := (blk_cell BK373.out 1).trans rfl; have hcz7_2 : w5.cell? ⟨gb373, 2, none⟩ = some (.string (⟨#[]⟩ : ByteArray)) := (blk_cell BK373.out 2).trans rfl; have hcz7_3 : w5.cell? ⟨gb373, 3, none⟩ = some (.int .i64 0) := (blk_cell BK373.out 3).trans rfl; have hcz7_4 : w5.cell? ⟨gb373, 4, none⟩ = some (.int .u64 0) := (blk_cell BK373.out 4).trans rfl; have hfz7_0 := blk_frozen BK373.out 0; have hfz7_1 := blk_frozen BK373.out 1; have hfz7_2 := blk_frozen BK373.out 2; have hfz7_3 := blk_frozen BK373.out 3; have hfz7_4 := blk_frozen BK373.out 4; have hcz8_0 : w5.cell? ⟨gb374, 0, none⟩ = some (.int .i64 0) := (blk_cell BK374.out 0).trans rfl; have hcz8_1 : w5.cell? ⟨gb374, 1, none⟩ = some (.int .i64 0) := (blk_cell BK374.out 1).trans rfl; have hfz8_0 := blk_frozen BK374.out 0; have hfz8_1 := blk_frozen BK374.out 1))
  refine bodyPost_ret (results_list (rs := [.cell 4 30, .tmp 5, .cell 6 25]) rfl (by simp) (.cell gb373 30 #[.int .i64 7, .int .i64 a1, .string (⟨#[]⟩ : ByteArray), .int .i64 0, .int .u64 0] (0, 0) _ rfl (by (with_reducible repeat first | apply blk_drewN | apply blk_drew | apply blk_alloc); refine blk_far ?_ NB373_374.out _; (with_reducible repeat first | apply blk_drewN | apply blk_drew | apply blk_alloc); refine blk_far ?_ NB373_374.out _; (with_reducible repeat first | apply blk_drewN | apply blk_drew | apply blk_alloc); refine blk_put (cs := #[.int .i64 7, .int .i64 a1, .string (⟨#[]⟩ : ByteArray), .int .i64 0, .int .u64 0]) ?_ 4 _ rfl; (with_reducible repeat first | apply blk_drewN | apply blk_drew | apply blk_alloc); refine blk_put (cs := #[.int .i64 7, .int .i64 a1, .string (⟨#[]⟩ : ByteArray), .int .i64 0, .int .u64 0]) ?_ 3 _ rfl; (with_reducible repeat first | apply blk_drewN | apply blk_drew | apply blk_alloc); refine blk_put (cs := #[.int .i64 7, .int .i64 a1, .string (⟨#[]⟩ : ByteArray), .int .i64 0, .int .u64 0]) ?_ 2 _ rfl; (with_reducible repeat first | apply blk_drewN | apply blk_drew | apply blk_alloc); refine blk_put (cs := #[.int .i64 7, .int .i64 0, .string (⟨#[]⟩ : ByteArray), .int .i64 0, .int .u64 0]) ?_ 1 _ rfl; (with_reducible repeat first | apply blk_drewN | apply blk_drew | apply blk_alloc); refine blk_put (cs := #[.int .i64 0, .int .i64 0, .string (⟨#[]⟩ : ByteArray), .int .i64 0, .int .u64 0]) ?_ 0 _ rfl; (with_reducible repeat first | apply blk_drewN | apply blk_drew | apply blk_alloc); exact BK373.out) Tryd.underlying30 rfl (by kernel_rfl) (.tmp (.cell gb374 25 #[.int .i64 0, .int .i64 0] (0, 0) _ rfl (by (with_reducible repeat first | apply blk_drewN | apply blk_drew | apply blk_alloc); refine blk_put (cs := #[.int .i64 0, .int .i64 0]) ?_ 1 _ rfl; (with_reducible repeat first | apply blk_drewN | apply blk_drew | apply blk_alloc); refine blk_put (cs := #[.int .i64 0, .int .i64 0]) ?_ 0 _ rfl; (with_reducible repeat first | apply blk_drewN | apply blk_drew | apply blk_alloc); refine blk_far ?_ NB374_373.out _; (with_reducible repeat first | apply blk_drewN | apply blk_drew | apply blk_alloc); refine blk_far ?_ NB374_373.out _; (with_reducible repeat first | apply blk_drewN | apply blk_drew | apply blk_alloc); refine blk_far ?_ NB374_373.out _; (with_reducible repeat first | apply blk_drewN | apply blk_drew | apply blk_alloc); refine blk_far ?_ NB374_373.out _; (with_reducible repeat first | apply blk_drewN | apply blk_drew | apply blk_alloc); refine blk_far ?_ NB374_373.out _; (with_reducible repeat first | apply blk_drewN | apply blk_drew | apply blk_alloc); exact BK374.out) Tryd.underlying25 rfl (by kernel_rfl) .nil)))) rfl ?_
  exact ⟨x63_9, x63_1⟩
 ·rw [if_neg c3] at H
  have c3b0 : (a1 == (a0.size : Int)) = false := beq_eq_false_iff_ne.mpr c3
  have c3b1 : (a1 != (a0.size : Int)) = true := bne_iff_ne.mpr c3
  by_cases c9 : 0 ≤ a1
  ·rw [if_pos c9] at H
   have c9b0 : decide (0 ≤ a1) = true := decide_eq_true c9
   clear c9
   by_cases c10 : a1 < (a0.size : Int)
   ·rw [if_pos c10] at H
    have c10b0 : decide (a1 < (a0.size : Int)) = true := decide_eq_true c10
    clear c10
    replace H := Option.bind_eq_some_iff.mp H
    obtain ⟨t375, A120, H⟩ := H
    replace H : (if t375 = true then ((casketref11_name.f k a0 a1).bind fun bt376 => (some (bt376.1, bt376.2.1, bt376.2.2.1, bt376.2.2.2.1, bt376.2.2.2.2.1, bt376.2.2.2.2.2.1, bt376.2.2.2.2.2.2.1, bt376.2.2.2.2.2.2.2))) else ((casketref11_digit.f (bt a0 a1)).bind fun t384 => (if t384 = true then ((casketref11_number.f k a0 a1).bind fun bt385 => (some (bt385.1, bt385.2.1, bt385.2.2.1, bt385.2.2.2.1, bt385.2.2.2.2.1, bt385.2.2.2.2.2.1, bt385.2.2.2.2.2.2.1, bt385.2.2.2.2.2.2.2))) else (if (bt a0 a1) = 34 then ((casketref11_text.f k a0 a1).bind fun bt393 => (some (bt393.1, bt393.2.1, bt393.2.2.1, bt393.2.2.2.1, bt393.2.2.2.2.1, bt393.2.2.2.2.2.1, bt393.2.2.2.2.2.2.1, bt393.2.2.2.2.2.2.2))) else (casketref11_Next.l0 k a0 a1 2))))) = some (r1, r2, r3, r4, r5, r6, r7, r8) := H
    have A12 := Aside0.mk A120
    clear A120
    by_cases c13 : t375 = true
    ·subst c13
     have H1 : ((casketref11_name.f k a0 a1).bind fun bt376 => (some (bt376.1, bt376.2.1, bt376.2.2.1, bt376.2.2.2.1, bt376.2.2.2.2.1, bt376.2.2.2.2.2.1, bt376.2.2.2.2.2.2.1, bt376.2.2.2.2.2.2.2))) = some (r1, r2, r3, r4, r5, r6, r7, r8) := by rw [if_pos rfl] at H; exact H
     clear H
     have H := H1
     clear H1
     replace H := Option.bind_eq_some_iff.mp H
     obtain ⟨⟨t376, t377, t378, t379, t380, t381, t382, t383⟩, A140, H⟩ := H
     replace H : (some (t376, t377, t378, t379, t380, t381, t382, t383)) = some (r1, r2, r3, r4, r5, r6, r7, r8) := H
     have A14 := Aside0.mk A140
     clear A140
     simp only [Option.some.injEq, Prod.mk.injEq] at H
     obtain ⟨rfl, rfl, rfl, rfl, rfl, rfl, rfl, rfl⟩ := H
     go_enter Tryd.func16, Tryd.ntmps16
     go_wp2_with (first | ((with_reducible refine gate_dst (N := 4) rfl ?_); refine box_event ?hg (N := 4) ?hd (cs := #[.int .i64 0, .int .i64 0, .string (⟨#[]⟩ : ByteArray), .int .i64 0, .int .u64 0]) (t := 30) ?hr ?_; (case hd => rfl); (case hg => rfl); (case hr => first | (go_simp; done) | (go_simp; rfl)); intro gb373 hg w15 hbox hb; have n0_ := Aside0.mk (below_step x63_4 hb); have n1_ := Aside0.mk (hbox); have n2_ := Aside0.mk ((by rw [hg]; exact (below_size x63_4) : w.heap.size ≤ gb373)); have n3_ := Aside0.mk ((by rw [hg]; exact (below_size x63_4) : w.heap.size ≤ gb373)); clear HB; have HB := n0_; have BK373 := n1_; have GW373 := n2_; have GE373 := n3_; clear n0_ n1_ n2_ n3_; clear hb hbox hg) | ((with_reducible refine gate_dst (N := 6) rfl ?_); refine box_event ?hg (N := 6) ?hd (cs := #[.int .i64 0, .int .i64 0]) (t := 25) ?hr ?_; (case hd => rfl); (case hg => rfl); (case hr => first | (go_simp; done) | (go_simp; rfl)); intro gb374 hg w16 hbox hb; have n0_ := Aside0.mk (blk_below (g := gb373) (o := .cells #[.int .i64 0, .int .i64 0, .string (⟨#[]⟩ : ByteArray), .int .i64 0, .int .u64 0] 30 (0, 0)) x63_7 hb); have n1_ := Aside0.mk (below_step x63_2 hb); have n2_ := Aside0.mk (hbox); have n3_ := Aside0.mk ((by rw [hg]; exact (below_size x63_2) : w.heap.size ≤ gb374)); have n4_ := Aside0.mk ((by rw [hg]; exact (below_size x63_2) : w.heap.size ≤ gb374)); have n5_ := Aside0.mk ((by rw [hg]; exact Nat.ne_of_lt (blk_lt (g := gb373) (o := .cells #[.int .i64 0, .int .i64 0, .string (⟨#[]⟩ : ByteArray), .int .i64 0, .int .u64 0] 30 (0, 0)) x63_7) : gb373 ≠ gb374)); have n6_ := Aside0.mk ((by rw [hg]; exact Nat.ne_of_gt (blk_lt (g := gb373) (o := .cells #[.int .i64 0, .int .i64 0, .string (⟨#[]⟩ : ByteArray), .int .i64 0, .int .u64 0] 30 (0, 0)) x63_7) : gb374 ≠ gb373)); clear BK373; clear HB; have BK373 := n0_; have HB := n1_; have BK374 := n2_; have GW374 := n3_; have GE374 := n4_; have NB373_374 := n5_; have NB374_373 := n6_; clear n0_ n1_ n2_ n3_ n4_ n5_ n6_; clear hb hbox hg; have p11 : 0 ≤ (a1 : Int) := of_decide_eq_true x63_11; have q11 : a1 < (a0.size : Int) := of_decide_eq_true x63_11; have hx11 := bt_at a0 a1; replace p11 := eq_true p11; replace q11 := eq_true q11) | ((with_reducible refine gate_callee (f := 28) rfl ?_); refine goesL_ (some 21) rfl rfl Tryd.func28 (by kernel_rfl) rfl #[.int .u8 (bt a0 a1)] rfl x63_3 ?_; (with_reducible refine (casketref11_starts.calls (bt a0 a1) true _ A12.out).mono ?_); rintro e w' ⟨rfl, ⟨nd, rfl⟩⟩; refine ⟨_, rfl, ?_⟩; (try (rw [drewN_self w16]; generalize hq_ : World.drewN w16 _ = w16; have n0_ : Aside0 (w16.heap[gb373]? = some (.cells #[.int .i64 0, .int .i64 0, .string (⟨#[]⟩ : ByteArray), .int .i64 0, .int .u64 0] 30 (0, 0))) := ⟨x63_5⟩; have n1_ : Aside0 (w16.heap[gb374]? = some (.cells #[.int .i64 0, .int .i64 0] 25 (0, 0))) := ⟨x63_6⟩; have n2_ : Aside0 (Below w.heap.size w w16) := ⟨x63_0⟩; clear BK373 BK374 HB hq_; have BK373 := n0_; have BK374 := n1_; have HB := n2_; clear n0_ n1_ n2_))) | ((with_reducible refine gate_callee (f := 29) rfl ?_); refine goesL_ (some 24) rfl rfl Tryd.func29 (by kernel_rfl) rfl #[.string a0, .int .i64 a1] rfl x63_3 ?_; (with_reducible refine (casketref11_name.calls k a0 a1 t376 t377 t378 t379 t380 t381 t382 t383 _ A14.out).mono ?_); rintro e w17 ⟨rfl, hb⟩; refine ⟨_, rfl, ?_⟩; have n0_ := Aside0.mk (blk_below (g := gb373) (o := .cells #[.int .i64 0, .int .i64 0, .string (⟨#[]⟩ : ByteArray), .int .i64 0, .int .u64 0] 30 (0, 0)) x63_7 hb); have n1_ := Aside0.mk (blk_below (g := gb374) (o := .cells #[.int .i64 0, .int .i64 0] 25 (0, 0)) x63_8 hb); have n2_ := Aside0.mk (below_step x63_1 hb); clear BK373; clear BK374; clear HB; have BK373 := n0_; have BK374 := n1_; have HB := n2_; clear n0_ n1_ n2_; have hnb18 := NB373_374.out; have hnc18 := NB374_373.out; have hcz19_0 : w17.cell? ⟨gb373, 0, none⟩ = some (.int .i64 0) := (blk_cell BK373.out 0).trans rfl; have hcz19_1 : w17.cell? ⟨gb373, 1, none⟩ = some (.int .i64 0) := (blk_cell BK373.out 1).trans rfl; have hcz19_2 : w17.cell? ⟨gb373, 2, none⟩ = some (.string (⟨#[]⟩ : ByteArray)) := (blk_cell BK373.out 2).trans rfl; have hcz19_3 : w17.cell? ⟨gb373, 3, none⟩ = some (.int .i64 0) := (blk_cell BK373.out 3).trans rfl; have hcz19_4 : w17.cell? ⟨gb373, 4, none⟩ = some (.int .u64 0) := (blk_cell BK373.out 4).trans rfl; have hfz19_0 := blk_frozen BK373.out 0; have hfz19_1 := blk_frozen BK373.out 1; have hfz19_2 := blk_frozen BK373.out 2; have hfz19_3 := blk_frozen BK373.out 3; have hfz19_4 := blk_frozen BK373.out 4; have hcz20_0 : w17.cell? ⟨gb374, 0, none⟩ = some (.int .i64 0) := (blk_cell BK374.out 0).trans rfl; have hcz20_1 : w17.cell? ⟨gb374, 1, none⟩ = some (.int .i64 0) := (blk_cell BK374.out 1).trans rfl; have hfz20_0 := blk_frozen BK374.out 0; have hfz20_1 := blk_frozen BK374.out 1))
     refine bodyPost_ret (results_list (rs := [.cell 4 30, .tmp 5, .cell 6 25]) rfl (by simp) (.cell gb373 30 #[.int .i64 t376, .int .i64 t377, .string t378, .int .i64 t379, .int .u64 t380] (0, 0) _ rfl (by (with_reducible repeat first | apply blk_drewN | apply blk_drew | apply blk_alloc); refine blk_far ?_ NB373_374.out _; (with_reducible repeat first | apply blk_drewN | apply blk_drew | apply blk_alloc); refine blk_far ?_ NB373_374.out _; (with_reducible repeat first | apply blk_drewN | apply blk_drew | apply blk_alloc); refine blk_put (cs := #[.int .i64 t376, .int .i64 t377, .string t378, .int .i64 t379, .int .u64 0]) ?_ 4 _ rfl; (with_reducible repeat first | apply blk_drewN | apply blk_drew | apply blk_alloc); refine blk_put (cs := #[.int .i64 t376, .int .i64 t377, .string t378, .int .i64 0, .int .u64 0]) ?_ 3 _ rfl; (with_reducible repeat first | apply blk_drewN | apply blk_drew | apply blk_alloc); refine blk_put (cs := #[.int .i64 t376, .int .i64 t377, .string (⟨#[]⟩ : ByteArray), .int .i64 0, .int .u64 0]) ?_ 2 _ rfl; (with_reducible repeat first | apply blk_drewN | apply blk_drew | apply blk_alloc); refine blk_put (cs := #[.int .i64 t376, .int .i64 0, .string (⟨#[]⟩ : ByteArray), .int .i64 0, .int .u64 0]) ?_ 1 _ rfl; (with_reducible repeat first | apply blk_drewN | apply blk_drew | apply blk_alloc); refine blk_put (cs := #[.int .i64 0, .int .i64 0, .string (⟨#[]⟩ : ByteArray), .int .i64 0, .int .u64 0]) ?_ 0 _ rfl; (with_reducible repeat first | apply blk_drewN | apply blk_drew | apply blk_alloc); exact BK373.out) Tryd.underlying30 rfl (by kernel_rfl) (.tmp (.cell gb374 25 #[.int .i64 t382, .int .i64 t383] (0, 0) _ rfl (by (with_reducible repeat first | apply blk_drewN | apply blk_drew | apply blk_alloc); refine blk_put (cs := #[.int .i64 t382, .int .i64 0]) ?_ 1 _ rfl; (with_reducible repeat first | apply blk_drewN | apply blk_drew | apply blk_alloc); refine blk_put (cs := #[.int .i64 0, .int .i64 0]) ?_ 0 _ rfl; (with_reducible repeat first | apply blk_drewN | apply blk_drew | apply blk_alloc); refine blk_far ?_ NB374_373.out _; (with_reducible repeat first | apply blk_drewN | apply blk_drew | apply blk_alloc); refine blk_far ?_ NB374_373.out _; (with_reducible repeat first | apply blk_drewN | apply blk_drew | apply blk_alloc); refine blk_far ?_ NB374_373.out _; (with_reducible repeat first | apply blk_drewN | apply blk_drew | apply blk_alloc); refine blk_far ?_ NB374_373.out _; (with_reducible repeat first | apply blk_drewN | apply blk_drew | apply blk_alloc); refine blk_far ?_ NB374_373.out _; (with_reducible repeat first | apply blk_drewN | apply blk_drew | apply blk_alloc); exact BK374.out) Tryd.underlying25 rfl (by kernel_rfl) .nil)))) rfl ?_
     exact ⟨x63_9, x63_1⟩
    ·replace c13 := Bool.eq_false_iff.mpr c13
     subst c13
     have H1 : ((casketref11_digit.f (bt a0 a1)).bind fun t384 => (if t384 = true then ((casketref11_number.f k a0 a1).bind fun bt385 => (some (bt385.1, bt385.2.1, bt385.2.2.1, bt385.2.2.2.1, bt385.2.2.2.2.1, bt385.2.2.2.2.2.1, bt385.2.2.2.2.2.2.1, bt385.2.2.2.2.2.2.2))) else (if (bt a0 a1) = 34 then ((casketref11_text.f k a0 a1).bind fun bt393 => (some (bt393.1, bt393.2.1, bt393.2.2.1, bt393.2.2.2.1, bt393.2.2.2.2.1, bt393.2.2.2.2.2.1, bt393.2.2.2.2.2.2.1, bt393.2.2.2.2.2.2.2))) else (casketref11_Next.l0 k a0 a1 2)))) = some (r1, r2, r3, r4, r5, r6, r7, r8) := by rw [if_neg (show ¬ (false = true) by decide)] at H; exact H
     clear H
     have H := H1
     clear H1
     replace H := Option.bind_eq_some_iff.mp H
     obtain ⟨t384, A210, H⟩ := H
     replace H : (if t384 = true then ((casketref11_number.f k a0 a1).bind fun bt385 => (some (bt385.1, bt385.2.1, bt385.2.2.1, bt385.2.2.2.1, bt385.2.2.2.2.1, bt385.2.2.2.2.2.1, bt385.2.2.2.2.2.2.1, bt385.2.2.2.2.2.2.2))) else (if (bt a0 a1) = 34 then ((casketref11_text.f k a0 a1).bind fun bt393 => (some (bt393.1, bt393.2.1, bt393.2.2.1, bt393.2.2.2.1, bt393.2.2.2.2.1, bt393.2.2.2.2.2.1, bt393.2.2.2.2.2.2.1, bt393.2.2.2.2.2.2.2))) else (casketref11_Next.l0 k a0 a1 2))) = some (r1, r2, r3, r4, r5, r6, r7, r8) := H
     have A21 := Aside0.mk A210
     clear A210
     by_cases c22 : t384 = true
     ·subst c22
      have H1 : ((casketref11_number.f k a0 a1).bind fun bt385 => (some (bt385.1, bt385.2.1, bt385.2.2.1, bt385.2.2.2.1, bt385.2.2.2.2.1, bt385.2.2.2.2.2.1, bt385.2.2.2.2.2.2.1, bt385.2.2.2.2.2.2.2))) = some (r1, r2, r3, r4, r5, r6, r7, r8) := by rw [if_pos rfl] at H; exact H
      clear H
      have H := H1
      clear H1
      replace H := Option.bind_eq_some_iff.mp H
      obtain ⟨⟨t385, t386, t387, t388, t389, t390, t391, t392⟩, A230, H⟩ := H
      replace H : (some (t385, t386, t387, t388, t389, t390, t391, t392)) = some (r1, r2, r3, r4, r5, r6, r7, r8) := H
      have A23 := Aside0.mk A230
      clear A230
      simp only [Option.some.injEq, Prod.mk.injEq] at H
      obtain ⟨rfl, rfl, rfl, rfl, rfl, rfl, rfl, rfl⟩ := H
      go_enter Tryd.func16, Tryd.ntmps16
      go_wp2_with (first | ((with_reducible refine gate_dst (N := 4) rfl ?_); refine box_event ?hg (N := 4) ?hd (cs := #[.int .i64 0, .int .i64 0, .string (⟨#[]⟩ : ByteArray), .int .i64 0, .int .u64 0]) (t := 30) ?hr ?_; (case hd => rfl); (case hg => rfl); (case hr => first | (go_simp; done) | (go_simp; rfl)); intro gb373 hg w24 hbox hb; have n0_ := Aside0.mk (below_step x63_4 hb); have n1_ := Aside0.mk (hbox); have n2_ := Aside0.mk ((by rw [hg]; exact (below_size x63_4) : w.heap.size ≤ gb373)); have n3_ := Aside0.mk ((by rw [hg]; exact (below_size x63_4) : w.heap.size ≤ gb373)); clear HB; have HB := n0_; have BK373 := n1_; have GW373 := n2_; have GE373 := n3_; clear n0_ n1_ n2_ n3_; clear hb hbox hg) | ((with_reducible refine gate_dst (N := 6) rfl ?_); refine box_event ?hg (N := 6) ?hd (cs := #[.int .i64 0, .int .i64 0]) (t := 25) ?hr ?_; (case hd => rfl); (case hg => rfl); (case hr => first | (go_simp; done) | (go_simp; rfl)); intro gb374 hg w25 hbox hb; have n0_ := Aside0.mk (blk_below (g := gb373) (o := .cells #[.int .i64 0, .int .i64 0, .string (⟨#[]⟩ : ByteArray), .int .i64 0, .int .u64 0] 30 (0, 0)) x63_7 hb); have n1_ := Aside0.mk (below_step x63_2 hb); have n2_ := Aside0.mk (hbox); have n3_ := Aside0.mk ((by rw [hg]; exact (below_size x63_2) : w.heap.size ≤ gb374)); have n4_ := Aside0.mk ((by rw [hg]; exact (below_size x63_2) : w.heap.size ≤ gb374)); have n5_ := Aside0.mk ((by rw [hg]; exact Nat.ne_of_lt (blk_lt (g := gb373) (o := .cells #[.int .i64 0, .int .i64 0, .string (⟨#[]⟩ : ByteArray), .int .i64 0, .int .u64 0] 30 (0, 0)) x63_7) : gb373 ≠ gb374)); have n6_ := Aside0.mk ((by rw [hg]; exact Nat.ne_of_gt (blk_lt (g := gb373) (o := .cells #[.int .i64 0, .int .i64 0, .string (⟨#[]⟩ : ByteArray), .int .i64 0, .int .u64 0] 30 (0, 0)) x63_7) : gb374 ≠ gb373)); clear BK373; clear HB; have BK373 := n0_; have HB := n1_; have BK374 := n2_; have GW374 := n3_; have GE374 := n4_; have NB373_374 := n5_; have NB374_373 := n6_; clear n0_ n1_ n2_ n3_ n4_ n5_ n6_; clear hb hbox hg; have p11 : 0 ≤ (a1 : Int) := of_decide_eq_true x63_11; have q11 : a1 < (a0.size : Int) := of_decide_eq_true x63_11; have hx11 := bt_at a0 a1; replace p11 := eq_true p11; replace q11 := eq_true q11) | ((with_reducible refine gate_callee (f := 28) rfl ?_); refine goesL_ (some 21) rfl rfl Tryd.func28 (by kernel_rfl) rfl #[.int .u8 (bt a0 a1)] rfl x63_3 ?_; (with_reducible refine (casketref11_starts.calls (bt a0 a1) false _ A12.out).mono ?_); rintro e w' ⟨rfl, ⟨nd, rfl⟩⟩; refine ⟨_, rfl, ?_⟩; (try (rw [drewN_self w25]; generalize hq_ : World.drewN w25 _ = w25; have n0_ : Aside0 (w25.heap[gb373]? = some (.cells #[.int .i64 0, .int .i64 0, .string (⟨#[]⟩ : ByteArray), .int .i64 0, .int .u64 0] 30 (0, 0))) := ⟨x63_5⟩; have n1_ : Aside0 (w25.heap[gb374]? = some (.cells #[.int .i64 0, .int .i64 0] 25 (0, 0))) := ⟨x63_6⟩; have n2_ : Aside0 (Below w.heap.size w w25) := ⟨x63_0⟩; clear BK373 BK374 HB hq_; have BK373 := n0_; have BK374 := n1_; have HB := n2_; clear n0_ n1_ n2_))) | ((with_reducible refine gate_callee (f := 30) rfl ?_); refine goesL_ (some 29) rfl rfl Tryd.func30 (by kernel_rfl) rfl #[.int .u8 (bt a0 a1)] rfl x63_3 ?_; (with_reducible refine (casketref11_digit.calls (bt a0 a1) true _ A21.out).mono ?_); rintro e w' ⟨rfl, ⟨nd, rfl⟩⟩; refine ⟨_, rfl, ?_⟩; (try (rw [drewN_self w25]; generalize hq_ : World.drewN w25 _ = w25; have n0_ : Aside0 (w25.heap[gb373]? = some (.cells #[.int .i64 0, .int .i64 0, .string (⟨#[]⟩ : ByteArray), .int .i64 0, .int .u64 0] 30 (0, 0))) := ⟨x63_5⟩; have n1_ : Aside0 (w25.heap[gb374]? = some (.cells #[.int .i64 0, .int .i64 0] 25 (0, 0))) := ⟨x63_6⟩; have n2_ : Aside0 (Below w.heap.size w w25) := ⟨x63_0⟩; clear BK373 BK374 HB hq_; have BK373 := n0_; have BK374 := n1_; have HB := n2_; clear n0_ n1_ n2_))) | ((with_reducible refine gate_callee (f := 31) rfl ?_); refine goesL_ (some 32) rfl rfl Tryd.func31 (by kernel_rfl) rfl #[.string a0, .int .i64 a1] rfl x63_3 ?_; (with_reducible refine (casketref11_number.calls k a0 a1 t385 t386 t387 t388 t389 t390 t391 t392 _ A23.out).mono ?_); rintro e w26 ⟨rfl, hb⟩; refine ⟨_, rfl, ?_⟩; have n0_ := Aside0.mk (blk_below (g := gb373) (o := .cells #[.int .i64 0, .int .i64 0, .string (⟨#[]⟩ : ByteArray), .int .i64 0, .int .u64 0] 30 (0, 0)) x63_7 hb); have n1_ := Aside0.mk (blk_below (g := gb374) (o := .cells #[.int .i64 0, .int .i64 0] 25 (0, 0)) x63_8 hb); have n2_ := Aside0.mk (below_step x63_1 hb); clear BK373; clear BK374; clear HB; have BK373 := n0_; have BK374 := n1_; have HB := n2_; clear n0_ n1_ n2_; have hnb27 := NB373_374.out; have hnc27 := NB374_373.out; have hcz28_0 : w26.cell? ⟨gb373, 0, none⟩ = some (.int .i64 0) := (blk_cell BK373.out 0).trans rfl; have hcz28_1 : w26.cell? ⟨gb373, 1, none⟩ = some (.int .i64 0) := (blk_cell BK373.out 1).trans rfl; have hcz28_2 : w26.cell? ⟨gb373, 2, none⟩ = some (.string (⟨#[]⟩ : ByteArray)) := (blk_cell BK373.out 2).trans rfl; have hcz28_3 : w26.cell? ⟨gb373, 3, none⟩ = some (.int .i64 0) := (blk_cell BK373.out 3).trans rfl; have hcz28_4 : w26.cell? ⟨gb373, 4, none⟩ = some (.int .u64 0) := (blk_cell BK373.out 4).trans rfl; have hfz28_0 := blk_frozen BK373.out 0; have hfz28_1 := blk_frozen BK373.out 1; have hfz28_2 := blk_frozen BK373.out 2; have hfz28_3 := blk_frozen BK373.out 3; have hfz28_4 := blk_frozen BK373.out 4; have hcz29_0 : w26.cell? ⟨gb374, 0, none⟩ = some (.int .i64 0) := (blk_cell BK374.out 0).trans rfl; have hcz29_1 : w26.cell? ⟨gb374, 1, none⟩ = some (.int .i64 0) := (blk_cell BK374.out 1).trans rfl; have hfz29_0 := blk_frozen BK374.out 0; have hfz29_1 := blk_frozen BK374.out 1))
      refine bodyPost_ret (results_list (rs := [.cell 4 30, .tmp 5, .cell 6 25]) rfl (by simp) (.cell gb373 30 #[.int .i64 t385, .int .i64 t386, .string t387, .int .i64 t388, .int .u64 t389] (0, 0) _ rfl (by (with_reducible repeat first | apply blk_drewN | apply blk_drew | apply blk_alloc); refine blk_far ?_ NB373_374.out _; (with_reducible repeat first | apply blk_drewN | apply blk_drew | apply blk_alloc); refine blk_far ?_ NB373_374.out _; (with_reducible repeat first | apply blk_drewN | apply blk_drew | apply blk_alloc); refine blk_put (cs := #[.int .i64 t385, .int .i64 t386, .string t387, .int .i64 t388, .int .u64 0]) ?_ 4 _ rfl; (with_reducible repeat first | apply blk_drewN | apply blk_drew | apply blk_alloc); refine blk_put (cs := #[.int .i64 t385, .int .i64 t386, .string t387, .int .i64 0, .int .u64 0]) ?_ 3 _ rfl; (with_reducible repeat first | apply blk_drewN | apply blk_drew | apply blk_alloc); refine blk_put (cs := #[.int .i64 t385, .int .i64 t386, .string (⟨#[]⟩ : ByteArray), .int .i64 0, .int .u64 0]) ?_ 2 _ rfl; (with_reducible repeat first | apply blk_drewN | apply blk_drew | apply blk_alloc); refine blk_put (cs := #[.int .i64 t385, .int .i64 0, .string (⟨#[]⟩ : ByteArray), .int .i64 0, .int .u64 0]) ?_ 1 _ rfl; (with_reducible repeat first | apply blk_drewN | apply blk_drew | apply blk_alloc); refine blk_put (cs := #[.int .i64 0, .int .i64 0, .string (⟨#[]⟩ : ByteArray), .int .i64 0, .int .u64 0]) ?_ 0 _ rfl; (with_reducible repeat first | apply blk_drewN | apply blk_drew | apply blk_alloc); exact BK373.out) Tryd.underlying30 rfl (by kernel_rfl) (.tmp (.cell gb374 25 #[.int .i64 t391, .int .i64 t392] (0, 0) _ rfl (by (with_reducible repeat first | apply blk_drewN | apply blk_drew | apply blk_alloc); refine blk_put (cs := #[.int .i64 t391, .int .i64 0]) ?_ 1 _ rfl; (with_reducible repeat first | apply blk_drewN | apply blk_drew | apply blk_alloc); refine blk_put (cs := #[.int .i64 0, .int .i64 0]) ?_ 0 _ rfl; (with_reducible repeat first | apply blk_drewN | apply blk_drew | apply blk_alloc); refine blk_far ?_ NB374_373.out _; (with_reducible repeat first | apply blk_drewN | apply blk_drew | apply blk_alloc); refine blk_far ?_ NB374_373.out _; (with_reducible repeat first | apply blk_drewN | apply blk_drew | apply blk_alloc); refine blk_far ?_ NB374_373.out _; (with_reducible repeat first | apply blk_drewN | apply blk_drew | apply blk_alloc); refine blk_far ?_ NB374_373.out _; (with_reducible repeat first | apply blk_drewN | apply blk_drew | apply blk_alloc); refine blk_far ?_ NB374_373.out _; (with_reducible repeat first | apply blk_drewN | apply blk_drew | apply blk_alloc); exact BK374.out) Tryd.underlying25 rfl (by kernel_rfl) .nil)))) rfl ?_
      exact ⟨x63_9, x63_1⟩
     ·replace c22 := Bool.eq_false_iff.mpr c22
      subst c22
      have H1 : (if (bt a0 a1) = 34 then ((casketref11_text.f k a0 a1).bind fun bt393 => (some (bt393.1, bt393.2.1, bt393.2.2.1, bt393.2.2.2.1, bt393.2.2.2.2.1, bt393.2.2.2.2.2.1, bt393.2.2.2.2.2.2.1, bt393.2.2.2.2.2.2.2))) else (casketref11_Next.l0 k a0 a1 2)) = some (r1, r2, r3, r4, r5, r6, r7, r8) := by rw [if_neg (show ¬ (false = true) by decide)] at H; exact H
      clear H
      have H := H1
      clear H1
      by_cases c30 : (bt a0 a1) = 34
      ·rw [if_pos c30] at H
       have c30b0 : ((bt a0 a1) == 34) = true := beq_iff_eq.mpr c30
       have c30b1 : ((bt a0 a1) != 34) = false := bne_eq_false_iff_eq.mpr c30
       clear c30
       replace H := Option.bind_eq_some_iff.mp H
       obtain ⟨⟨t393, t394, t395, t396, t397, t398, t399, t400⟩, A310, H⟩ := H
       replace H : (some (t393, t394, t395, t396, t397, t398, t399, t400)) = some (r1, r2, r3, r4, r5, r6, r7, r8) := H
       have A31 := Aside0.mk A310
       clear A310
       simp only [Option.some.injEq, Prod.mk.injEq] at H
       obtain ⟨rfl, rfl, rfl, rfl, rfl, rfl, rfl, rfl⟩ := H
       go_enter Tryd.func16, Tryd.ntmps16
       go_wp2_with (first | ((with_reducible refine gate_dst (N := 4) rfl ?_); refine box_event ?hg (N := 4) ?hd (cs := #[.int .i64 0, .int .i64 0, .string (⟨#[]⟩ : ByteArray), .int .i64 0, .int .u64 0]) (t := 30) ?hr ?_; (case hd => rfl); (case hg => rfl); (case hr => first | (go_simp; done) | (go_simp; rfl)); intro gb373 hg w32 hbox hb; have n0_ := Aside0.mk (below_step x63_4 hb); have n1_ := Aside0.mk (hbox); have n2_ := Aside0.mk ((by rw [hg]; exact (below_size x63_4) : w.heap.size ≤ gb373)); have n3_ := Aside0.mk ((by rw [hg]; exact (below_size x63_4) : w.heap.size ≤ gb373)); clear HB; have HB := n0_; have BK373 := n1_; have GW373 := n2_; have GE373 := n3_; clear n0_ n1_ n2_ n3_; clear hb hbox hg) | ((with_reducible refine gate_dst (N := 6) rfl ?_); refine box_event ?hg (N := 6) ?hd (cs := #[.int .i64 0, .int .i64 0]) (t := 25) ?hr ?_; (case hd => rfl); (case hg => rfl); (case hr => first | (go_simp; done) | (go_simp; rfl)); intro gb374 hg w33 hbox hb; have n0_ := Aside0.mk (blk_below (g := gb373) (o := .cells #[.int .i64 0, .int .i64 0, .string (⟨#[]⟩ : ByteArray), .int .i64 0, .int .u64 0] 30 (0, 0)) x63_7 hb); have n1_ := Aside0.mk (below_step x63_2 hb); have n2_ := Aside0.mk (hbox); have n3_ := Aside0.mk ((by rw [hg]; exact (below_size x63_2) : w.heap.size ≤ gb374)); have n4_ := Aside0.mk ((by rw [hg]; exact (below_size x63_2) : w.heap.size ≤ gb374)); have n5_ := Aside0.mk ((by rw [hg]; exact Nat.ne_of_lt (blk_lt (g := gb373) (o := .cells #[.int .i64 0, .int .i64 0, .string (⟨#[]⟩ : ByteArray), .int .i64 0, .int .u64 0] 30 (0, 0)) x63_7) : gb373 ≠ gb374)); have n6_ := Aside0.mk ((by rw [hg]; exact Nat.ne_of_gt (blk_lt (g := gb373) (o := .cells #[.int .i64 0, .int .i64 0, .string (⟨#[]⟩ : ByteArray), .int .i64 0, .int .u64 0] 30 (0, 0)) x63_7) : gb374 ≠ gb373)); clear BK373; clear HB; have BK373 := n0_; have HB := n1_; have BK374 := n2_; have GW374 := n3_; have GE374 := n4_; have NB373_374 := n5_; have NB374_373 := n6_; clear n0_ n1_ n2_ n3_ n4_ n5_ n6_; clear hb hbox hg; have p11 : 0 ≤ (a1 : Int) := of_decide_eq_true x63_11; have q11 : a1 < (a0.size : Int) := of_decide_eq_true x63_11; have hx11 := bt_at a0 a1; replace p11 := eq_true p11; replace q11 := eq_true q11) | ((with_reducible refine gate_callee (f := 28) rfl ?_); refine goesL_ (some 21) rfl rfl Tryd.func28 (by kernel_rfl) rfl #[.int .u8 (bt a0 a1)] rfl x63_3 ?_; (with_reducible refine (casketref11_starts.calls (bt a0 a1) false _ A12.out).mono ?_); rintro e w' ⟨rfl, ⟨nd, rfl⟩⟩; refine ⟨_, rfl, ?_⟩; (try (rw [drewN_self w33]; generalize hq_ : World.drewN w33 _ = w33; have n0_ : Aside0 (w33.heap[gb373]? = some (.cells #[.int .i64 0, .int .i64 0, .string (⟨#[]⟩ : ByteArray), .int .i64 0, .int .u64 0] 30 (0, 0))) := ⟨x63_5⟩; have n1_ : Aside0 (w33.heap[gb374]? = some (.cells #[.int .i64 0, .int .i64 0] 25 (0, 0))) := ⟨x63_6⟩; have n2_ : Aside0 (Below w.heap.size w w33) := ⟨x63_0⟩; clear BK373 BK374 HB hq_; have BK373 := n0_; have BK374 := n1_; have HB := n2_; clear n0_ n1_ n2_))) | ((with_reducible refine gate_callee (f := 30) rfl ?_); refine goesL_ (some 29) rfl rfl Tryd.func30 (by kernel_rfl) rfl #[.int .u8 (bt a0 a1)] rfl x63_3 ?_; (with_reducible refine (casketref11_digit.calls (bt a0 a1) false _ A21.out).mono ?_); rintro e w' ⟨rfl, ⟨nd, rfl⟩⟩; refine ⟨_, rfl, ?_⟩; (try (rw [drewN_self w33]; generalize hq_ : World.drewN w33 _ = w33; have n0_ : Aside0 (w33.heap[gb373]? = some (.cells #[.int .i64 0, .int .i64 0, .string (⟨#[]⟩ : ByteArray), .int .i64 0, .int .u64 0] 30 (0, 0))) := ⟨x63_5⟩; have n1_ : Aside0 (w33.heap[gb374]? = some (.cells #[.int .i64 0, .int .i64 0] 25 (0, 0))) := ⟨x63_6⟩; have n2_ : Aside0 (Below w.heap.size w w33) := ⟨x63_0⟩; clear BK373 BK374 HB hq_; have BK373 := n0_; have BK374 := n1_; have HB := n2_; clear n0_ n1_ n2_))) | ((with_reducible refine gate_callee (f := 32) rfl ?_); refine goesL_ (some 40) rfl rfl Tryd.func32 (by kernel_rfl) rfl #[.string a0, .int .i64 a1] rfl x63_3 ?_; (with_reducible refine (casketref11_text.calls k a0 a1 t393 t394 t395 t396 t397 t398 t399 t400 _ A31.out).mono ?_); rintro e w34 ⟨rfl, hb⟩; refine ⟨_, rfl, ?_⟩; have n0_ := Aside0.mk (blk_below (g := gb373) (o := .cells #[.int .i64 0, .int .i64 0, .string (⟨#[]⟩ : ByteArray), .int .i64 0, .int .u64 0] 30 (0, 0)) x63_7 hb); have n1_ := Aside0.mk (blk_below (g := gb374) (o := .cells #[.int .i64 0, .int .i64 0] 25 (0, 0)) x63_8 hb); have n2_ := Aside0.mk (below_step x63_1 hb); clear BK373; clear BK374; clear HB; have BK373 := n0_; have BK374 := n1_; have HB := n2_; clear n0_ n1_ n2_; have hnb35 := NB373_374.out; have hnc35 := NB374_373.out; have hcz36_0 : w34.cell? ⟨gb373, 0, none⟩ = some (.int .i64 0) := (blk_cell BK373.out 0).trans rfl; have hcz36_1 : w34.cell? ⟨gb373, 1, none⟩ = some (.int .i64 0) := (blk_cell BK373.out 1).trans rfl; have hcz36_2 : w34.cell? ⟨gb373, 2, none⟩ = some (.string (⟨#[]⟩ : ByteArray)) := (blk_cell BK373.out 2).trans rfl; have hcz36_3 : w34.cell? ⟨gb373, 3, none⟩ = some (.int .i64 0) := (blk_cell BK373.out 3).trans rfl; have hcz36_4 : w34.cell? ⟨gb373, 4, none⟩ = some (.int .u64 0) := (blk_cell BK373.out 4).trans rfl; have hfz36_0 := blk_frozen BK373.out 0; have hfz36_1 := blk_frozen BK373.out 1; have hfz36_2 := blk_frozen BK373.out 2; have hfz36_3 := blk_frozen BK373.out 3; have hfz36_4 := blk_frozen BK373.out 4; have hcz37_0 : w34.cell? ⟨gb374, 0, none⟩ = some (.int .i64 0) := (blk_cell BK374.out 0).trans rfl; have hcz37_1 : w34.cell? ⟨gb374, 1, none⟩ = some (.int .i64 0) := (blk_cell BK374.out 1).trans rfl; have hfz37_0 := blk_frozen BK374.out 0; have hfz37_1 := blk_frozen BK374.out 1))
       refine bodyPost_ret (results_list (rs := [.cell 4 30, .tmp 5, .cell 6 25]) rfl (by simp) (.cell gb373 30 #[.int .i64 t393, .int .i64 t394, .string t395, .int .i64 t396, .int .u64 t397] (0, 0) _ rfl (by (with_reducible repeat first | apply blk_drewN | apply blk_drew | apply blk_alloc); refine blk_far ?_ NB373_374.out _; (with_reducible repeat first | apply blk_drewN | apply blk_drew | apply blk_alloc); refine blk_far ?_ NB373_374.out _; (with_reducible repeat first | apply blk_drewN | apply blk_drew | apply blk_alloc); refine blk_put (cs := #[.int .i64 t393, .int .i64 t394, .string t395, .int .i64 t396, .int .u64 0]) ?_ 4 _ rfl; (with_reducible repeat first | apply blk_drewN | apply blk_drew | apply blk_alloc); refine blk_put (cs := #[.int .i64 t393, .int .i64 t394, .string t395, .int .i64 0, .int .u64 0]) ?_ 3 _ rfl; (with_reducible repeat first | apply blk_drewN | apply blk_drew | apply blk_alloc); refine blk_put (cs := #[.int .i64 t393, .int .i64 t394, .string (⟨#[]⟩ : ByteArray), .int .i64 0, .int .u64 0]) ?_ 2 _ rfl; (with_reducible repeat first | apply blk_drewN | apply blk_drew | apply blk_alloc); refine blk_put (cs := #[.int .i64 t393, .int .i64 0, .string (⟨#[]⟩ : ByteArray), .int .i64 0, .int .u64 0]) ?_ 1 _ rfl; (with_reducible repeat first | apply blk_drewN | apply blk_drew | apply blk_alloc); refine blk_put (cs := #[.int .i64 0, .int .i64 0, .string (⟨#[]⟩ : ByteArray), .int .i64 0, .int .u64 0]) ?_ 0 _ rfl; (with_reducible repeat first | apply blk_drewN | apply blk_drew | apply blk_alloc); exact BK373.out) Tryd.underlying30 rfl (by kernel_rfl) (.tmp (.cell gb374 25 #[.int .i64 t399, .int .i64 t400] (0, 0) _ rfl (by (with_reducible repeat first | apply blk_drewN | apply blk_drew | apply blk_alloc); refine blk_put (cs := #[.int .i64 t399, .int .i64 0]) ?_ 1 _ rfl; (with_reducible repeat first | apply blk_drewN | apply blk_drew | apply blk_alloc); refine blk_put (cs := #[.int .i64 0, .int .i64 0]) ?_ 0 _ rfl; (with_reducible repeat first | apply blk_drewN | apply blk_drew | apply blk_alloc); refine blk_far ?_ NB374_373.out _; (with_reducible repeat first | apply blk_drewN | apply blk_drew | apply blk_alloc); refine blk_far ?_ NB374_373.out _; (with_reducible repeat first | apply blk_drewN | apply blk_drew | apply blk_alloc); refine blk_far ?_ NB374_373.out _; (with_reducible repeat first | apply blk_drewN | apply blk_drew | apply blk_alloc); refine blk_far ?_ NB374_373.out _; (with_reducible repeat first | apply blk_drewN | apply blk_drew | apply blk_alloc); refine blk_far ?_ NB374_373.out _; (with_reducible repeat first | apply blk_drewN | apply blk_drew | apply blk_alloc); exact BK374.out) Tryd.underlying25 rfl (by kernel_rfl) .nil)))) rfl ?_
       exact ⟨x63_9, x63_1⟩
      ·rw [if_neg c30] at H
       have c30b0 : ((bt a0 a1) == 34) = false := beq_eq_false_iff_ne.mpr c30
       have c30b1 : ((bt a0 a1) != 34) = true := bne_iff_ne.mpr c30
       have H' := Aside0.mk H
       clear H
       go_enter Tryd.func16, Tryd.ntmps16
       go_wp2_with (first | ((with_reducible refine gate_dst (N := 4) rfl ?_); refine box_event ?hg (N := 4) ?hd (cs := #[.int .i64 0, .int .i64 0, .string (⟨#[]⟩ : ByteArray), .int .i64 0, .int .u64 0]) (t := 30) ?hr ?_; (case hd => rfl); (case hg => rfl); (case hr => first | (go_simp; done) | (go_simp; rfl)); intro gb373 hg w38 hbox hb; have n0_ := Aside0.mk (below_step x63_4 hb); have n1_ := Aside0.mk (hbox); have n2_ := Aside0.mk ((by rw [hg]; exact (below_size x63_4) : w.heap.size ≤ gb373)); have n3_ := Aside0.mk ((by rw [hg]; exact (below_size x63_4) : w.heap.size ≤ gb373)); clear HB; have HB := n0_; have BK373 := n1_; have GW373 := n2_; have GE373 := n3_; clear n0_ n1_ n2_ n3_; clear hb hbox hg) | ((with_reducible refine gate_dst (N := 6) rfl ?_); refine box_event ?hg (N := 6) ?hd (cs := #[.int .i64 0, .int .i64 0]) (t := 25) ?hr ?_; (case hd => rfl); (case hg => rfl); (case hr => first | (go_simp; done) | (go_simp; rfl)); intro gb374 hg w39 hbox hb; have n0_ := Aside0.mk (blk_below (g := gb373) (o := .cells #[.int .i64 0, .int .i64 0, .string (⟨#[]⟩ : ByteArray), .int .i64 0, .int .u64 0] 30 (0, 0)) x63_7 hb); have n1_ := Aside0.mk (below_step x63_2 hb); have n2_ := Aside0.mk (hbox); have n3_ := Aside0.mk ((by rw [hg]; exact (below_size x63_2) : w.heap.size ≤ gb374)); have n4_ := Aside0.mk ((by rw [hg]; exact (below_size x63_2) : w.heap.size ≤ gb374)); have n5_ := Aside0.mk ((by rw [hg]; exact Nat.ne_of_lt (blk_lt (g := gb373) (o := .cells #[.int .i64 0, .int .i64 0, .string (⟨#[]⟩ : ByteArray), .int .i64 0, .int .u64 0] 30 (0, 0)) x63_7) : gb373 ≠ gb374)); have n6_ := Aside0.mk ((by rw [hg]; exact Nat.ne_of_gt (blk_lt (g := gb373) (o := .cells #[.int .i64 0, .int .i64 0, .string (⟨#[]⟩ : ByteArray), .int .i64 0, .int .u64 0] 30 (0, 0)) x63_7) : gb374 ≠ gb373)); clear BK373; clear HB; have BK373 := n0_; have HB := n1_; have BK374 := n2_; have GW374 := n3_; have GE374 := n4_; have NB373_374 := n5_; have NB374_373 := n6_; clear n0_ n1_ n2_ n3_ n4_ n5_ n6_; clear hb hbox hg; have p11 : 0 ≤ (a1 : Int) := of_decide_eq_true x63_11; have q11 : a1 < (a0.size : Int) := of_decide_eq_true x63_11; have hx11 := bt_at a0 a1; replace p11 := eq_true p11; replace q11 := eq_true q11) | ((with_reducible refine gate_callee (f := 28) rfl ?_); refine goesL_ (some 21) rfl rfl Tryd.func28 (by kernel_rfl) rfl #[.int .u8 (bt a0 a1)] rfl x63_3 ?_; (with_reducible refine (casketref11_starts.calls (bt a0 a1) false _ A12.out).mono ?_); rintro e w' ⟨rfl, ⟨nd, rfl⟩⟩; refine ⟨_, rfl, ?_⟩) | ((with_reducible refine gate_callee (f := 30) rfl ?_); refine goesL_ (some 29) rfl rfl Tryd.func30 (by kernel_rfl) rfl #[.int .u8 (bt a0 a1)] rfl x63_3 ?_; (with_reducible refine (casketref11_digit.calls (bt a0 a1) false _ A21.out).mono ?_); rintro e w' ⟨rfl, ⟨nd, rfl⟩⟩; refine ⟨_, rfl, ?_⟩))
       go_loopg [8] k (fun kq v8 w' => ∃ (x8_1 : Int) (x374000_1 : Int) (x374001_1 : Int) (x374002_1 : ByteArray) (x374003_1 : Int) (x374004_1 : Int) (x375000_1 : Int) (x375001_1 : Int), v8 = .int .i64 x8_1 ∧ Aside0 (casketref11_Next.l0 kq a0 a1 x8_1 = some (r1, r2, r3, r4, r5, r6, r7, r8)) ∧ Aside0 (kq ≤ k) ∧ Aside0 (w'.heap[gb373]? = some (.cells #[.int .i64 x374000_1, .int .i64 x374001_1, .string x374002_1, .int .i64 x374003_1, .int .u64 x374004_1] 30 (0, 0))) ∧ Aside0 (w'.heap[gb374]? = some (.cells #[.int .i64 x375000_1, .int .i64 x375001_1] 25 (0, 0))) ∧ Aside0 (Below w.heap.size w w'))
       case atStart => exact ⟨(2), (0), (0), ((⟨#[]⟩ : ByteArray)), (0), (0), (0), (0), x63_12, H', ⟨Nat.le_refl _⟩, ⟨x63_7⟩, ⟨x63_8⟩, ⟨x63_1⟩⟩
       case round =>
        clear H'
        obtain ⟨x8_1, x374000_1, x374001_1, x374002_1, x374003_1, x374004_1, x375000_1, x375001_1, rfl, HA, HK1, BK373, BK374, HB⟩ := hrel
        cases gk with
        | zero => exact absurd HA.out (by simp [casketref11_Next.l0])
        | succ k1 =>
         have H := HA.out
         clear HA
         simp only [casketref11_Next.l0] at H
         by_cases c40 : x8_1 ≥ 1
         ·rw [if_pos c40] at H
          have c40b0 : decide (1 ≤ x8_1) = true := decide_eq_true c40
          clear c40
          by_cases c41 : (wrap64 (a1 + x8_1)) ≤ (a0.size : Int)
          ·rw [if_pos c41] at H
           have c41b0 : decide ((wrap64 (a1 + x8_1)) ≤ (a0.size : Int)) = true := decide_eq_true c41
           clear c41
           by_cases c42 : 0 ≤ a1
           ·rw [if_pos c42] at H
            have c42b0 := eq_true c42
            have c42b1 : decide (0 ≤ a1) = true := decide_eq_true c42
            clear c42
            by_cases c43 : a1 ≤ (wrap64 (a1 + x8_1))
            ·rw [if_pos c43] at H
             have c43b0 := eq_true c43
             have c43b1 : decide (a1 ≤ (wrap64 (a1 + x8_1))) = true := decide_eq_true c43
             have c44b0 := eq_true (of_decide_eq_true x63_11 : (wrap64 (a1 + x8_1)) ≤ (a0.size : Int))
             replace H := Option.bind_eq_some_iff.mp H
             obtain ⟨t401, A450, H⟩ := H
             replace H : (if t401 = true then (some (3, a1, a0.extract (a1 : Int).toNat ((wrap64 (a1 + x8_1)) : Int).toNat, 0, 0, wrap64 (a1 + x8_1), 0, 0)) else (casketref11_Next.l0 k1 a0 a1 (wrap64 (x8_1 - 1)))) = some (r1, r2, r3, r4, r5, r6, r7, r8) := H
             have A45 := Aside0.mk A450
             clear A450
             by_cases c46 : t401 = true
             ·subst c46
              have H1 : (some (3, a1, a0.extract (a1 : Int).toNat ((wrap64 (a1 + x8_1)) : Int).toNat, 0, 0, wrap64 (a1 + x8_1), 0, 0)) = some (r1, r2, r3, r4, r5, r6, r7, r8) := by rw [if_pos rfl] at H; exact H
              clear H
              have H := H1
              clear H1
              have c47b0 := eq_true (of_decide_eq_true x63_11 : 0 ≤ a1)
              have c48b0 := eq_true (of_decide_eq_true x63_11 : a1 ≤ (wrap64 (a1 + x8_1)))
              have c49b0 := eq_true (of_decide_eq_true x63_11 : (wrap64 (a1 + x8_1)) ≤ (a0.size : Int))
              simp only [Option.some.injEq, Prod.mk.injEq] at H
              obtain ⟨rfl, rfl, rfl, rfl, rfl, rfl, rfl, rfl⟩ := H
              go_wp2_with (first | (go_at_call 33; (with_reducible refine (casketref11_mark.calls (a0.extract (a1 : Int).toNat ((wrap64 (a1 + x8_1)) : Int).toNat) true _ A45.out).mono ?_); rintro e w' ⟨rfl, ⟨nd, rfl⟩⟩; (try (rw [drewN_self wr]; generalize hq_ : World.drewN wr _ = wr; have n0_ : Aside0 (wr.heap[gb373]? = some (.cells #[.int .i64 x374000_1, .int .i64 x374001_1, .string x374002_1, .int .i64 x374003_1, .int .u64 x374004_1] 30 (0, 0))) := ⟨x63_5⟩; have n1_ : Aside0 (wr.heap[gb374]? = some (.cells #[.int .i64 x375000_1, .int .i64 x375001_1] 25 (0, 0))) := ⟨x63_6⟩; have n2_ : Aside0 (Below w.heap.size w wr) := ⟨x63_0⟩; clear BK373 BK374 HB hq_; have BK373 := n0_; have BK374 := n1_; have HB := n2_; clear n0_ n1_ n2_)); have hnb50 := NB373_374.out; have hnc50 := NB374_373.out; have hcz51_0 : wr.cell? ⟨gb373, 0, none⟩ = some (.int .i64 x374000_1) := (blk_cell BK373.out 0).trans rfl; have hcz51_1 : wr.cell? ⟨gb373, 1, none⟩ = some (.int .i64 x374001_1) := (blk_cell BK373.out 1).trans rfl; have hcz51_2 : wr.cell? ⟨gb373, 2, none⟩ = some (.string x374002_1) := (blk_cell BK373.out 2).trans rfl; have hcz51_3 : wr.cell? ⟨gb373, 3, none⟩ = some (.int .i64 x374003_1) := (blk_cell BK373.out 3).trans rfl; have hcz51_4 : wr.cell? ⟨gb373, 4, none⟩ = some (.int .u64 x374004_1) := (blk_cell BK373.out 4).trans rfl; have hfz51_0 := blk_frozen BK373.out 0; have hfz51_1 := blk_frozen BK373.out 1; have hfz51_2 := blk_frozen BK373.out 2; have hfz51_3 := blk_frozen BK373.out 3; have hfz51_4 := blk_frozen BK373.out 4; have hcz52_0 : wr.cell? ⟨gb374, 0, none⟩ = some (.int .i64 x375000_1) := (blk_cell BK374.out 0).trans rfl; have hcz52_1 : wr.cell? ⟨gb374, 1, none⟩ = some (.int .i64 x375001_1) := (blk_cell BK374.out 1).trans rfl; have hfz52_0 := blk_frozen BK374.out 0; have hfz52_1 := blk_frozen BK374.out 1))
              refine bodyPost_ret (results_list (rs := [.cell 4 30, .tmp 5, .cell 6 25]) rfl (by simp) (.cell gb373 30 #[.int .i64 3, .int .i64 a1, .string (a0.extract (a1 : Int).toNat ((wrap64 (a1 + x8_1)) : Int).toNat), .int .i64 0, .int .u64 0] (0, 0) _ rfl (by (with_reducible repeat first | apply blk_drewN | apply blk_drew | apply blk_alloc); refine blk_far ?_ NB373_374.out _; (with_reducible repeat first | apply blk_drewN | apply blk_drew | apply blk_alloc); refine blk_far ?_ NB373_374.out _; (with_reducible repeat first | apply blk_drewN | apply blk_drew | apply blk_alloc); refine blk_put (cs := #[.int .i64 3, .int .i64 a1, .string (a0.extract (a1 : Int).toNat ((wrap64 (a1 + x8_1)) : Int).toNat), .int .i64 0, .int .u64 x374004_1]) ?_ 4 _ rfl; (with_reducible repeat first | apply blk_drewN | apply blk_drew | apply blk_alloc); refine blk_put (cs := #[.int .i64 3, .int .i64 a1, .string (a0.extract (a1 : Int).toNat ((wrap64 (a1 + x8_1)) : Int).toNat), .int .i64 x374003_1, .int .u64 x374004_1]) ?_ 3 _ rfl; (with_reducible repeat first | apply blk_drewN | apply blk_drew | apply blk_alloc); refine blk_put (cs := #[.int .i64 3, .int .i64 a1, .string x374002_1, .int .i64 x374003_1, .int .u64 x374004_1]) ?_ 2 _ rfl; (with_reducible repeat first | apply blk_drewN | apply blk_drew | apply blk_alloc); refine blk_put (cs := #[.int .i64 3, .int .i64 x374001_1, .string x374002_1, .int .i64 x374003_1, .int .u64 x374004_1]) ?_ 1 _ rfl; (with_reducible repeat first | apply blk_drewN | apply blk_drew | apply blk_alloc); refine blk_put (cs := #[.int .i64 x374000_1, .int .i64 x374001_1, .string x374002_1, .int .i64 x374003_1, .int .u64 x374004_1]) ?_ 0 _ rfl; (with_reducible repeat first | apply blk_drewN | apply blk_drew | apply blk_alloc); exact BK373.out) Tryd.underlying30 rfl (by kernel_rfl) (.tmp (.cell gb374 25 #[.int .i64 0, .int .i64 0] (0, 0) _ rfl (by (with_reducible repeat first | apply blk_drewN | apply blk_drew | apply blk_alloc); refine blk_put (cs := #[.int .i64 0, .int .i64 x375001_1]) ?_ 1 _ rfl; (with_reducible repeat first | apply blk_drewN | apply blk_drew | apply blk_alloc); refine blk_put (cs := #[.int .i64 x375000_1, .int .i64 x375001_1]) ?_ 0 _ rfl; (with_reducible repeat first | apply blk_drewN | apply blk_drew | apply blk_alloc); refine blk_far ?_ NB374_373.out _; (with_reducible repeat first | apply blk_drewN | apply blk_drew | apply blk_alloc); refine blk_far ?_ NB374_373.out _; (with_reducible repeat first | apply blk_drewN | apply blk_drew | apply blk_alloc); refine blk_far ?_ NB374_373.out _; (with_reducible repeat first | apply blk_drewN | apply blk_drew | apply blk_alloc); refine blk_far ?_ NB374_373.out _; (with_reducible repeat first | apply blk_drewN | apply blk_drew | apply blk_alloc); refine blk_far ?_ NB374_373.out _; (with_reducible repeat first | apply blk_drewN | apply blk_drew | apply blk_alloc); exact BK374.out) Tryd.underlying25 rfl (by kernel_rfl) .nil)))) rfl ?_
              exact ⟨x63_9, x63_1⟩
             ·replace c46 := Bool.eq_false_iff.mpr c46
              subst c46
              have H1 : (casketref11_Next.l0 k1 a0 a1 (wrap64 (x8_1 - 1))) = some (r1, r2, r3, r4, r5, r6, r7, r8) := by rw [if_neg (show ¬ (false = true) by decide)] at H; exact H
              clear H
              have H := H1
              clear H1
              have H' := Aside0.mk H
              clear H
              go_wp2_with (first | (go_at_call 33; (with_reducible refine (casketref11_mark.calls (a0.extract (a1 : Int).toNat ((wrap64 (a1 + x8_1)) : Int).toNat) false _ A45.out).mono ?_); rintro e w' ⟨rfl, ⟨nd, rfl⟩⟩))
              go_roundg k1
              case measure => have := HK1.out; omega
              case rel => exact ⟨(wrap64 (x8_1 - 1)), (x374000_1), (x374001_1), (x374002_1), (x374003_1), (x374004_1), (x375000_1), (x375001_1), x63_12, H', ⟨by have := HK1.out; omega⟩, ⟨x63_7⟩, ⟨x63_8⟩, ⟨x63_1⟩⟩
            ·rw [if_neg c43] at H
             exact absurd H (by simp)
           ·rw [if_neg c42] at H
            exact absurd H (by simp)
          ·rw [if_neg c41] at H
           have c41b0 : decide ((wrap64 (a1 + x8_1)) ≤ (a0.size : Int)) = false := decide_eq_false c41
           clear c41
           have H' := Aside0.mk H
           clear H
           go_wp2
           go_roundg k1
           case measure => have := HK1.out; omega
           case rel => exact ⟨(wrap64 (x8_1 - 1)), (x374000_1), (x374001_1), (x374002_1), (x374003_1), (x374004_1), (x375000_1), (x375001_1), x63_12, H', ⟨by have := HK1.out; omega⟩, ⟨x63_7⟩, ⟨x63_8⟩, ⟨x63_1⟩⟩
         ·rw [if_neg c40] at H
          have c40b0 : decide (1 ≤ x8_1) = false := decide_eq_false c40
          clear c40
          replace H := Option.bind_eq_some_iff.mp H
          obtain ⟨⟨t402, t403, t404, t405, t406, t407, t408, t409⟩, A530, H⟩ := H
          replace H : (some (t402, t403, t404, t405, t406, t407, t408, t409)) = some (r1, r2, r3, r4, r5, r6, r7, r8) := H
          have A53 := Aside0.mk A530
          clear A530
          simp only [Option.some.injEq, Prod.mk.injEq] at H
          obtain ⟨rfl, rfl, rfl, rfl, rfl, rfl, rfl, rfl⟩ := H
          go_wp2_with (first | ((with_reducible refine gate_callee (f := 34) rfl ?_); refine goesL_ (some 76) rfl rfl Tryd.func34 (by kernel_rfl) rfl #[.int .i64 60, .int .i64 a1] rfl x63_3 ?_; (with_reducible refine (casketref11_fault.calls 60 a1 t402 t403 t404 t405 t406 t407 t408 t409 _ A53.out).mono ?_); rintro e w54 ⟨rfl, hb⟩; refine ⟨_, rfl, ?_⟩; have n0_ := Aside0.mk (blk_below (g := gb373) (o := .cells #[.int .i64 x374000_1, .int .i64 x374001_1, .string x374002_1, .int .i64 x374003_1, .int .u64 x374004_1] 30 (0, 0)) x63_7 hb); have n1_ := Aside0.mk (blk_below (g := gb374) (o := .cells #[.int .i64 x375000_1, .int .i64 x375001_1] 25 (0, 0)) x63_8 hb); have n2_ := Aside0.mk (below_step x63_1 hb); clear BK373; clear BK374; clear HB; have BK373 := n0_; have BK374 := n1_; have HB := n2_; clear n0_ n1_ n2_; have hnb55 := NB373_374.out; have hnc55 := NB374_373.out; have hcz56_0 : w54.cell? ⟨gb373, 0, none⟩ = some (.int .i64 x374000_1) := (blk_cell BK373.out 0).trans rfl; have hcz56_1 : w54.cell? ⟨gb373, 1, none⟩ = some (.int .i64 x374001_1) := (blk_cell BK373.out 1).trans rfl; have hcz56_2 : w54.cell? ⟨gb373, 2, none⟩ = some (.string x374002_1) := (blk_cell BK373.out 2).trans rfl; have hcz56_3 : w54.cell? ⟨gb373, 3, none⟩ = some (.int .i64 x374003_1) := (blk_cell BK373.out 3).trans rfl; have hcz56_4 : w54.cell? ⟨gb373, 4, none⟩ = some (.int .u64 x374004_1) := (blk_cell BK373.out 4).trans rfl; have hfz56_0 := blk_frozen BK373.out 0; have hfz56_1 := blk_frozen BK373.out 1; have hfz56_2 := blk_frozen BK373.out 2; have hfz56_3 := blk_frozen BK373.out 3; have hfz56_4 := blk_frozen BK373.out 4; have hcz57_0 : w54.cell? ⟨gb374, 0, none⟩ = some (.int .i64 x375000_1) := (blk_cell BK374.out 0).trans rfl; have hcz57_1 : w54.cell? ⟨gb374, 1, none⟩ = some (.int .i64 x375001_1) := (blk_cell BK374.out 1).trans rfl; have hfz57_0 := blk_frozen BK374.out 0; have hfz57_1 := blk_frozen BK374.out 1))
          refine bodyPost_ret (results_list (rs := [.cell 4 30, .tmp 5, .cell 6 25]) rfl (by simp) (.cell gb373 30 #[.int .i64 t402, .int .i64 t403, .string t404, .int .i64 t405, .int .u64 t406] (0, 0) _ rfl (by (with_reducible repeat first | apply blk_drewN | apply blk_drew | apply blk_alloc); refine blk_far ?_ NB373_374.out _; (with_reducible repeat first | apply blk_drewN | apply blk_drew | apply blk_alloc); refine blk_far ?_ NB373_374.out _; (with_reducible repeat first | apply blk_drewN | apply blk_drew | apply blk_alloc); refine blk_put (cs := #[.int .i64 t402, .int .i64 t403, .string t404, .int .i64 t405, .int .u64 x374004_1]) ?_ 4 _ rfl; (with_reducible repeat first | apply blk_drewN | apply blk_drew | apply blk_alloc); refine blk_put (cs := #[.int .i64 t402, .int .i64 t403, .string t404, .int .i64 x374003_1, .int .u64 x374004_1]) ?_ 3 _ rfl; (with_reducible repeat first | apply blk_drewN | apply blk_drew | apply blk_alloc); refine blk_put (cs := #[.int .i64 t402, .int .i64 t403, .string x374002_1, .int .i64 x374003_1, .int .u64 x374004_1]) ?_ 2 _ rfl; (with_reducible repeat first | apply blk_drewN | apply blk_drew | apply blk_alloc); refine blk_put (cs := #[.int .i64 t402, .int .i64 x374001_1, .string x374002_1, .int .i64 x374003_1, .int .u64 x374004_1]) ?_ 1 _ rfl; (with_reducible repeat first | apply blk_drewN | apply blk_drew | apply blk_alloc); refine blk_put (cs := #[.int .i64 x374000_1, .int .i64 x374001_1, .string x374002_1, .int .i64 x374003_1, .int .u64 x374004_1]) ?_ 0 _ rfl; (with_reducible repeat first | apply blk_drewN | apply blk_drew | apply blk_alloc); exact BK373.out) Tryd.underlying30 rfl (by kernel_rfl) (.tmp (.cell gb374 25 #[.int .i64 t408, .int .i64 t409] (0, 0) _ rfl (by (with_reducible repeat first | apply blk_drewN | apply blk_drew | apply blk_alloc); refine blk_put (cs := #[.int .i64 t408, .int .i64 x375001_1]) ?_ 1 _ rfl; (with_reducible repeat first | apply blk_drewN | apply blk_drew | apply blk_alloc); refine blk_put (cs := #[.int .i64 x375000_1, .int .i64 x375001_1]) ?_ 0 _ rfl; (with_reducible repeat first | apply blk_drewN | apply blk_drew | apply blk_alloc); refine blk_far ?_ NB374_373.out _; (with_reducible repeat first | apply blk_drewN | apply blk_drew | apply blk_alloc); refine blk_far ?_ NB374_373.out _; (with_reducible repeat first | apply blk_drewN | apply blk_drew | apply blk_alloc); refine blk_far ?_ NB374_373.out _; (with_reducible repeat first | apply blk_drewN | apply blk_drew | apply blk_alloc); refine blk_far ?_ NB374_373.out _; (with_reducible repeat first | apply blk_drewN | apply blk_drew | apply blk_alloc); refine blk_far ?_ NB374_373.out _; (with_reducible repeat first | apply blk_drewN | apply blk_drew | apply blk_alloc); exact BK374.out) Tryd.underlying25 rfl (by kernel_rfl) .nil)))) rfl ?_
          exact ⟨x63_9, x63_1⟩
   ·rw [if_neg c10] at H
    exact absurd H (by simp)
  ·rw [if_neg c9] at H
   exact absurd H (by simp)
end Go.Proofs.YtjolkombhdibcaaDoor.Print
end
