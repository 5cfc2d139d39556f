/- Packed by a program of this session (wip/tools/pack.py): the declarations of its texts that this claim needs. Not trusted: Lean checks it. -/
import Derived.Test.YtjolkombhdibcaaDoorBksB
import Derived.RangeFuncNested
import Derived.RangeFuncBound
import Derived.RangeFuncCalls
import Derived.RangeFuncLeaves
import Derived.RangeFuncBox
import Derived.Shelf.Abstract
import Derived.Shelf.RegionOpen
import Derived.OwnWalkIn
import Derived.TacticsInMore
import Derived.LoopNIn
import Derived.LoopIn
import Derived.WalkMore
section
namespace Go.Proofs.YtjolkombhdibcaaDoor.Print
open Go.RowKit Go.Proofs.YtjolkombhdibcaaDoor.Given Go.Proofs.YtjolkombhdibcaaDoorW.PrintWords Go.Proofs.YtjolkombhdibcaaDoorW.PrintLast Go.Proofs.YtjolkombhdibcaaDoorW.PrintMore
attribute [local go_sem] max2_int min2_int max_two min_two max_three min_three max_four min_four
set_option linter.unusedVariables false
set_option linter.unusedSimpArgs false
theorem x48_12 {p : Prop} (h : p := by first | rfl | (simp; done) | (simp [*]; done)) : p := h
theorem x48_11 {p : Prop} (h : p := by first | (with_reducible assumption) | assumption) : p := h
theorem x48_10 {p : Prop} (h : p := by have := HK1.out; first | omega | exact Nat.le_refl _) : p := h
theorem x48_9 {p : Prop} (h : p := by have := HK1.out; have := HJ11.out; have := HJ17.out; first | omega | exact Nat.le_refl _) : p := h
theorem x48_8 {p : Prop} (h : p := by first | rfl | (simp; done) | (simp only [← hji6] <;> (first | rfl | simp)) | (simp [*]; done)) : p := h
theorem x48_7 {p : Prop} (h : p := by (with_reducible repeat first | apply blk_drewN | apply blk_drew | apply blk_alloc); exact BK153.out) : p := h
theorem x48_6 {p : Prop} (h : p := by (with_reducible repeat (first | apply Kd.R_alloc | apply Kd.R_drewN | apply Kd.R_drew)); exact HO_5.out) : p := h
theorem x48_5 {p : Prop} (h : p := by have := HK1.out; have := HJ11.out; have := HJ17.out; have := HJ21.out; first | omega | exact Nat.le_refl _) : p := h
theorem x48_4 {p : Prop} (h : p := by repeat (first | (with_reducible first | exact HB.out | apply below_alloc | apply pw_below_drewN | apply below_drew1) | exact HB.out)) : p := h
theorem x48_3 {p : Prop} (h : p := by repeat (first | (with_reducible first | exact HB.out | apply below_alloc | apply pw_below_drewN | apply below_drew1 | refine below_set ?_ GE153.out) | exact HB.out)) : p := h
theorem x48_2 {p : Prop} (h : p := by (try simp only [List.map_toArray, List.map_cons, List.map_nil]); first | done | (simp only [hji6]; rfl) | rfl | (simp only [List.length_drop, List.length_take]; rfl)) : p := h
theorem x48_1 {p : Prop} (h : p := by first | rfl | (simp [errW_none, errW_some] <;> rfl) | (simp only [← hji6]; first | rfl | (simp [errW_none, errW_some] <;> rfl)) | (simp [*, errW_none, errW_some] <;> rfl)) : p := h
theorem x48_0 {p : Prop} (h : p := by (with_reducible repeat first | apply blk_drewN | apply blk_drew | apply blk_alloc); refine blk_put (cs := #[.int .i64 0, .int .i64 0, .string (⟨#[]⟩ : ByteArray), .int .i64 0, .int .u64 x154004_1]) ?_ 4 _ rfl; (with_reducible repeat first | apply blk_drewN | apply blk_drew | apply blk_alloc); refine blk_put (cs := #[.int .i64 0, .int .i64 0, .string (⟨#[]⟩ : ByteArray), .int .i64 x154003_1, .int .u64 x154004_1]) ?_ 3 _ rfl; (with_reducible repeat first | apply blk_drewN | apply blk_drew | apply blk_alloc); refine blk_put (cs := #[.int .i64 0, .int .i64 0, .string x154002_1, .int .i64 x154003_1, .int .u64 x154004_1]) ?_ 2 _ rfl; (with_reducible repeat first | apply blk_drewN | apply blk_drew | apply blk_alloc); refine blk_put (cs := #[.int .i64 0, .int .i64 x154001_1, .string x154002_1, .int .i64 x154003_1, .int .u64 x154004_1]) ?_ 1 _ rfl; (with_reducible repeat first | apply blk_drewN | apply blk_drew | apply blk_alloc); refine blk_put (cs := #[.int .i64 x154000_1, .int .i64 x154001_1, .string x154002_1, .int .i64 x154003_1, .int .u64 x154004_1]) ?_ 0 _ rfl; (with_reducible repeat first | apply blk_drewN | apply blk_drew | apply blk_alloc); exact BK153.out) : p := h
mutual
def lex_quoted.l0 : Nat → ByteArray → List Int → Int → Option (Int × Int × ByteArray × Int × Int × Int × Int)
 | 0, _, _, _ => none
 | k + 1, x0, x5, x6 => if x6 < (x0.size : Int) then (if 0 ≤ x6 then (if 0 ≤ (wrap64 (x6 + 1)) then (if (wrap64 (x6 + 1)) ≤ (x0.size : Int) then (if (bt x0 x6) = 34 then (some (6, 0, strOfNums x5, 0, 0, wrap64 (x6 + 1), 0)) else (if (bt x0 x6) = 92 then (lex_quoted.j1 k x0 x5 x6 (bt x0 x6) (x0.extract ((wrap64 (x6 + 1)) : Int).toNat x0.size) false) else (if (bt x0 x6) ≥ 32 then (lex_quoted.j1 k x0 x5 x6 (bt x0 x6) (x0.extract ((wrap64 (x6 + 1)) : Int).toNat x0.size) (decide ((bt x0 x6) ≤ 126))) else (lex_quoted.j1 k x0 x5 x6 (bt x0 x6) (x0.extract ((wrap64 (x6 + 1)) : Int).toNat x0.size) false)))) else (none)) else (none)) else (none)) else (some (0, 0, (⟨#[]⟩ : ByteArray), 0, 0, 0, 61))
def lex_quoted.j1 : Nat → ByteArray → List Int → Int → Int → ByteArray → Bool → Option (Int × Int × ByteArray × Int × Int × Int × Int)
 | 0, _, _, _, _, _, _ => none
 | k + 1, x0, x5, x6, x7, x8, x31 => if x31 = true then (if x5.length < 140737488355328 then (lex_quoted.l0 k x0 (x5 ++ [x7]) (wrap64 (x6 + 1))) else (none)) else (if x7 = 92 then (lex_quoted.j2 k x0 x5 x6 x8 (x8.toList == ([] : List UInt8))) else (lex_quoted.j2 k x0 x5 x6 x8 true))
def lex_quoted.j2 : Nat → ByteArray → List Int → Int → ByteArray → Bool → Option (Int × Int × ByteArray × Int × Int × Int × Int)
 | 0, _, _, _, _, _ => none
 | k + 1, x0, x5, x6, x8, x46 => if x46 = true then (some (0, 0, (⟨#[]⟩ : ByteArray), 0, 0, 0, 61)) else (if 0 < (x8.size : Int) then (if (bt x8 0) = 92 then (lex_quoted.j3 k x0 x5 x6 x8 true) else (lex_quoted.j3 k x0 x5 x6 x8 ((bt x8 0) == 34))) else (none))
def lex_quoted.j3 : Nat → ByteArray → List Int → Int → ByteArray → Bool → Option (Int × Int × ByteArray × Int × Int × Int × Int)
 | 0, _, _, _, _, _ => none
 | k + 1, x0, x5, x6, x8, x54 => if x54 = true then (if 0 < (x8.size : Int) then (if x5.length < 140737488355328 then (lex_quoted.l0 k x0 (x5 ++ [bt x8 0]) (wrap64 ((wrap64 (x6 + 1)) + 1))) else (none)) else (none)) else (if 0 < (x8.size : Int) then (if (bt x8 0) = 110 then (if x5.length < 140737488355328 then (lex_quoted.l0 k x0 (x5 ++ [10]) (wrap64 ((wrap64 (x6 + 1)) + 1))) else (none)) else (if (x8.size : Int) > 2 then (if (bt x8 0) = 120 then (if 1 < (x8.size : Int) then ((lex_hex.f (bt x8 1)).bind fun t163 => (if t163 = true then (if 2 < (x8.size : Int) then ((lex_hex.f (bt x8 2)).bind fun t164 => (lex_quoted.j4 k x0 x5 x6 x8 t164)) else (none)) else (lex_quoted.j4 k x0 x5 x6 x8 false))) else (none)) else (lex_quoted.j4 k x0 x5 x6 x8 false)) else (lex_quoted.j4 k x0 x5 x6 x8 false))) else (none))
def lex_quoted.j4 : Nat → ByteArray → List Int → Int → ByteArray → Bool → Option (Int × Int × ByteArray × Int × Int × Int × Int)
 | 0, _, _, _, _, _ => none
 | k + 1, x0, x5, x6, x8, x79 => if x79 = true then (if 1 < (x8.size : Int) then ((lex_value.f (bt x8 1)).bind fun t165 => (if 2 < (x8.size : Int) then ((lex_value.f (bt x8 2)).bind fun t166 => (if x5.length < 140737488355328 then (lex_quoted.l0 k x0 (x5 ++ [Go.bits .or .u8 ((t165 * 16) % 256) t166]) (wrap64 ((wrap64 (x6 + 3)) + 1))) else (none))) else (none))) else (none)) else (some (0, 0, (⟨#[]⟩ : ByteArray), 0, 0, 0, 61))
end
def lex_quoted.f (k : Nat) (a0 : ByteArray) : Option (Int × Int × ByteArray × Int × Int × Int × Int) := lex_quoted.l0 k a0 ([] : List Int) 1
def lex_quoted.T21 : Bool × List (List Nat × List Nat) := (true, [([], []), ([], []), ([1], [1]), ([2], [2]), ([3], [3]), ([], []), ([5], [5]), ([6, 3], [6]), ([4, 7], [4, 7]), ([8], [8]), ([0, 9, 7], [0, 9]), ([10, 10, 0, 1, 2, 3, 4, 5, 6, 7, 8, 9, 10], [0, 10])])
def lex_quoted.B21 : List Nat := [0, 0, 2, 6, 14, 0, 32, 110, 254, 510, 1023, 2047]
theorem lex_quoted.tab21 : rtab .any (opsOf Tryd.f41 21) = lex_quoted.T21 := by kernel_rfl
theorem lex_quoted.bits21 : waitsOk lex_quoted.T21.2 lex_quoted.B21 = true := by kernel_rfl
set_option maxHeartbeats 8000000 in
set_option maxRecDepth 100000 in
theorem lex_quoted.calls (k : Nat) (a0 : ByteArray) (r1 : Int) (r2 : Int) (r3 : ByteArray) (r4 : Int) (r5 : Int) (r6 : Int) (r7 : Int) (w : World) (h : lex_quoted.f k a0 = some (r1, r2, r3, r4, r5, r6, r7)) :
  Calls Tryd.prog 41 #[.string a0] w fun e w' => e = .returned (.tuple #[.agg #[.int .i64 r1, .int .i64 r2, .string r3, .int .i64 r4, .int .u64 r5], .int .i64 r6, .int .i64 r7]) ∧ Below w.heap.size w w' := by
 have hu30 := Tryd.underlying30
 have HB := Aside0.mk (Below.refl w.heap.size w)
 have H : (lex_quoted.l0 k a0 ([] : List Int) 1) = some (r1, r2, r3, r4, r5, r6, r7) := h
 clear h
 have H' := Aside0.mk H
 clear H
 go_enter Tryd.func41, Tryd.ntmps41
 go_wp2_with (first | ((with_reducible refine gate_dst (N := 2) rfl ?_); refine box_event ?hg (N := 2) ?hd (cs := #[.int .i64 0, .int .i64 0, .string (⟨#[]⟩ : ByteArray), .int .i64 0, .int .u64 0]) (t := 30) ?hr ?_; (case hd => rfl); (case hg => rfl); (case hr => first | (go_simp; done) | (go_simp; rfl)); intro gb153 hg w2 hbox hb; have n0_ := Aside0.mk (below_step x48_4 hb); have n1_ := Aside0.mk (hbox); have n2_ := Aside0.mk ((by rw [hg]; exact (below_size x48_4) : w.heap.size ≤ gb153)); have n3_ := Aside0.mk ((by rw [hg]; exact (below_size x48_4) : w.heap.size ≤ gb153)); clear HB; have HB := n0_; have BK153 := n1_; have GW153 := n2_; have GE153 := n3_; clear n0_ n1_ n2_ n3_; clear hb hbox hg))
 go_loopg [5, 6] k (fun kq v5 v6 w' => ∃ (x5_1 : List Int) (x6_1 : Int) (x154000_1 : Int) (x154001_1 : Int) (x154002_1 : ByteArray) (x154003_1 : Int) (x154004_1 : Int), v6 = .int .i64 x6_1 ∧ Aside0 (lex_quoted.l0 kq a0 x5_1 x6_1 = some (r1, r2, r3, r4, r5, r6, r7)) ∧ Aside0 (kq ≤ k) ∧ Aside0 (Kd.R (Kd.int .u8) 5 w' w.heap.size (fun _ => True) v5 x5_1) ∧ Aside0 (w'.heap[gb153]? = some (.cells #[.int .i64 x154000_1, .int .i64 x154001_1, .string x154002_1, .int .i64 x154003_1, .int .u64 x154004_1] 30 (0, 0))) ∧ Aside0 (Below w.heap.size w w'))
 case atStart => exact ⟨(([] : List Int)), (1), (0), (0), ((⟨#[]⟩ : ByteArray)), (0), (0), x48_12, H', ⟨Nat.le_refl _⟩, ⟨by first | exact Kd.R_nil _ _ _ _ _ | exact Kd.N_nil _ _ _ _ _ | exact Kd.V_nil _ _ _ _ _ | exact Kd.Q_nil _ _ _ _ _ | exact Kd.S_nil _ _ _ _ _⟩, ⟨x48_7⟩, ⟨x48_3⟩⟩
 case round =>
  clear H'
  obtain ⟨x5_1, x6_1, x154000_1, x154001_1, x154002_1, x154003_1, x154004_1, rfl, HA, HK1, HO_5, BK153, HB⟩ := hrel
  cases gk with
  | zero => exact absurd HA.out (by simp [lex_quoted.l0])
  | succ k1 =>
   have H := HA.out
   clear HA
   simp only [lex_quoted.l0] at H
   by_cases c3 : x6_1 < (a0.size : Int)
   ·rw [if_pos c3] at H
    have c3b0 := decide_eq_true c3
    clear c3
    by_cases c4 : 0 ≤ x6_1
    ·rw [if_pos c4] at H
     have c4b0 := decide_eq_true c4
     clear c4
     obtain ⟨ji6, hji6⟩ : ∃ j_ : Int, (wrap64 (x6_1 + 1)) = j_ := ⟨_, rfl⟩
     replace H : (if 0 ≤ (ji6) then (if (ji6) ≤ (a0.size : Int) then (if (bt a0 x6_1) = 34 then (some (6, 0, strOfNums x5_1, 0, 0, ji6, 0)) else (if (bt a0 x6_1) = 92 then (lex_quoted.j1 k1 a0 x5_1 x6_1 (bt a0 x6_1) (a0.extract ((ji6) : Int).toNat a0.size) false) else (if (bt a0 x6_1) ≥ 32 then (lex_quoted.j1 k1 a0 x5_1 x6_1 (bt a0 x6_1) (a0.extract ((ji6) : Int).toNat a0.size) (decide ((bt a0 x6_1) ≤ 126))) else (lex_quoted.j1 k1 a0 x5_1 x6_1 (bt a0 x6_1) (a0.extract ((ji6) : Int).toNat a0.size) false)))) else (none)) else (none)) = some (r1, r2, r3, r4, r5, r6, r7) := by first | (rw [hji6] at H; exact H) | (simp only [hji6] at H ⊢; exact H)
     have hji6w : (IntKind.i64.wrap (x6_1 + 1)) = ji6 := (i64_w _).trans hji6
     by_cases c7 : 0 ≤ (ji6)
     ·rw [if_pos c7] at H
      have c7b0 := eq_true c7
      have c7b1 := decide_eq_true c7
      clear c7
      by_cases c8 : (ji6) ≤ (a0.size : Int)
      ·rw [if_pos c8] at H
       have c8b0 := eq_true c8
       have c8b1 := decide_eq_true c8
       clear c8
       by_cases c9 : (bt a0 x6_1) = 34
       ·rw [if_pos c9] at H
        have c9b0 := beq_iff_eq.mpr c9
        have c9b1 := bne_eq_false_iff_eq.mpr c9
        clear c9
        simp only [Option.some.injEq, Prod.mk.injEq] at H
        obtain ⟨rfl, rfl, rfl, rfl, rfl, rfl, rfl⟩ := H
        have p5 : 0 ≤ (x6_1 : Int) := of_decide_eq_true x48_11
        have q5 : x6_1 < (a0.size : Int) := of_decide_eq_true x48_11
        have hx5 := bt_at a0 x6_1
        replace p5 := eq_true p5
        replace q5 := eq_true q5
        have hcv10 := own_string (P := Tryd.prog) Tryd.underlying36 Tryd.underlying5 Tryd.underlying9 (Kd.own_of_R HO_5.out)
        have hcz11_0 : wr.cell? ⟨gb153, 0, none⟩ = some (.int .i64 x154000_1) := (blk_cell BK153.out 0).trans rfl
        have hcz11_1 : wr.cell? ⟨gb153, 1, none⟩ = some (.int .i64 x154001_1) := (blk_cell BK153.out 1).trans rfl
        have hcz11_2 : wr.cell? ⟨gb153, 2, none⟩ = some (.string x154002_1) := (blk_cell BK153.out 2).trans rfl
        have hcz11_3 : wr.cell? ⟨gb153, 3, none⟩ = some (.int .i64 x154003_1) := (blk_cell BK153.out 3).trans rfl
        have hcz11_4 : wr.cell? ⟨gb153, 4, none⟩ = some (.int .u64 x154004_1) := (blk_cell BK153.out 4).trans rfl
        have hfz11_0 := blk_frozen BK153.out 0
        have hfz11_1 := blk_frozen BK153.out 1
        have hfz11_2 := blk_frozen BK153.out 2
        have hfz11_3 := blk_frozen BK153.out 3
        have hfz11_4 := blk_frozen BK153.out 4
        go_wp2
        refine bodyPost_ret (results_ctt rfl _ _ gb153 30 #[.int .i64 6, .int .i64 0, .string (strOfNums x5_1), .int .i64 0, .int .u64 0] (0, 0) _ rfl (by (with_reducible repeat first | apply blk_drewN | apply blk_drew | apply blk_alloc); refine blk_put (cs := #[.int .i64 6, .int .i64 0, .string (strOfNums x5_1), .int .i64 0, .int .u64 x154004_1]) ?_ 4 _ rfl; (with_reducible repeat first | apply blk_drewN | apply blk_drew | apply blk_alloc); refine blk_put (cs := #[.int .i64 6, .int .i64 0, .string (strOfNums x5_1), .int .i64 x154003_1, .int .u64 x154004_1]) ?_ 3 _ rfl; (with_reducible repeat first | apply blk_drewN | apply blk_drew | apply blk_alloc); refine blk_put (cs := #[.int .i64 6, .int .i64 0, .string x154002_1, .int .i64 x154003_1, .int .u64 x154004_1]) ?_ 2 _ rfl; (with_reducible repeat first | apply blk_drewN | apply blk_drew | apply blk_alloc); refine blk_put (cs := #[.int .i64 6, .int .i64 x154001_1, .string x154002_1, .int .i64 x154003_1, .int .u64 x154004_1]) ?_ 1 _ rfl; (with_reducible repeat first | apply blk_drewN | apply blk_drew | apply blk_alloc); refine blk_put (cs := #[.int .i64 x154000_1, .int .i64 x154001_1, .string x154002_1, .int .i64 x154003_1, .int .u64 x154004_1]) ?_ 0 _ rfl; (with_reducible repeat first | apply blk_drewN | apply blk_drew | apply blk_alloc); exact BK153.out) Tryd.underlying30 rfl (by kernel_rfl)) rfl ?_
        exact ⟨x48_1, x48_3⟩
       ·rw [if_neg c9] at H
        have c9b0 := beq_eq_false_iff_ne.mpr c9
        have c9b1 := bne_iff_ne.mpr c9
        have HC12 := Aside0.mk H
        clear H
        have p5 : 0 ≤ (x6_1 : Int) := of_decide_eq_true x48_11
        have q5 : x6_1 < (a0.size : Int) := of_decide_eq_true x48_11
        have hx5 := bt_at a0 x6_1
        replace p5 := eq_true p5
        replace q5 := eq_true q5
        go_upto_region 10 with (fail)
        go_cut [31] (fun v31 wc => ∃ (kq : Nat) (x31_11 : Bool), v31 = .bool x31_11 ∧ Aside0 (lex_quoted.j1 kq a0 x5_1 x6_1 (bt a0 x6_1) (a0.extract ((ji6) : Int).toNat a0.size) x31_11 = some (r1, r2, r3, r4, r5, r6, r7)) ∧ Aside0 (kq ≤ k1) ∧ Aside0 (Kd.R (Kd.int .u8) 5 wc w.heap.size (fun _ => True) u5 x5_1) ∧ Aside0 (wc.heap[gb153]? = some (.cells #[.int .i64 x154000_1, .int .i64 x154001_1, .string x154002_1, .int .i64 x154003_1, .int .u64 x154004_1] 30 (0, 0))) ∧ Aside0 (Below w.heap.size w wc))
        case first =>
         have H := HC12.out
         clear HC12
         by_cases c13 : (bt a0 x6_1) = 92
         ·rw [if_pos c13] at H
          have c13b0 := beq_iff_eq.mpr c13
          have c13b1 := bne_eq_false_iff_eq.mpr c13
          clear c13
          (first | rw [c13b0] | (simp only [i64_w, i32_w]; rw [c13b0]) | skip)
          have H' := Aside0.mk H
          clear H
          go_wp2
          go_meet
          case rel => exact ⟨_, (false), x48_12, H', ⟨x48_10⟩, ⟨x48_6⟩, ⟨x48_7⟩, ⟨x48_3⟩⟩
         ·rw [if_neg c13] at H
          have c13b0 := beq_eq_false_iff_ne.mpr c13
          have c13b1 := bne_iff_ne.mpr c13
          (first | rw [c13b0] | (simp only [i64_w, i32_w]; rw [c13b0]) | skip)
          by_cases c14 : (bt a0 x6_1) ≥ 32
          ·rw [if_pos c14] at H
           have c14b0 : decide (32 ≤ (bt a0 x6_1)) = true := decide_eq_true c14
           clear c14
           have H' := Aside0.mk H
           clear H
           go_wp2
           go_meet
           case rel => exact ⟨_, (decide ((bt a0 x6_1) ≤ 126)), x48_12, H', ⟨x48_10⟩, ⟨x48_6⟩, ⟨x48_7⟩, ⟨x48_3⟩⟩
          ·rw [if_neg c14] at H
           have c14b0 : decide (32 ≤ (bt a0 x6_1)) = false := decide_eq_false c14
           clear c14
           have H' := Aside0.mk H
           clear H
           go_wp2
           go_meet
           case rel => exact ⟨_, (false), x48_12, H', ⟨x48_10⟩, ⟨x48_6⟩, ⟨x48_7⟩, ⟨x48_3⟩⟩
        case rest =>
         clear HC12
         obtain ⟨kq, x31_11, rfl, HA, HJ11, HO_5, BK153, HB⟩ := hcut
         cases kq with
         | zero => exact absurd HA.out (by simp [lex_quoted.j1])
         | succ kj11 =>
          have H := HA.out
          clear HA
          simp only [lex_quoted.j1] at H
          by_cases c15 : x31_11 = true
          ·subst c15
           rw [if_pos rfl] at H
           by_cases c16 : x5_1.length < 140737488355328
           ·rw [if_pos c16] at H
            have LMc16 := Aside0.mk c16
            clear c16
            obtain ⟨y154, hy154⟩ : ∃ y_ : List Int, y_ = (x5_1 ++ [(bt a0 x6_1)]) := ⟨_, rfl⟩
            replace H : (lex_quoted.l0 kj11 a0 y154 (wrap64 (x6_1 + 1))) = some (r1, r2, r3, r4, r5, r6, r7) := by first | (rw [hy154]; with_reducible exact H) | (have H2_ := (Option.bind_some _ _).symm.trans H; rw [hy154]; with_reducible exact H2_) | (have H2_ := (Option.bind_some _ _).symm.trans H; with_reducible exact H2_) | with_reducible exact H | (rw [hy154]; exact H) | exact H
            have Ny154 := Aside0.mk hy154
            clear hy154
            have H' := Aside0.mk H
            clear H
            go_wp2_with (first | ((with_reducible refine gate_builtin (b := .append) (xs := #[.tmp 42, .tmp 44]) rfl ?_); at_builtin; refine Kd.R_append (Kd.int .u8) (w0 := w) w.heap.size rfl (.tmp 42) (.tmp 44) 36 5 (.int .u8 0) 1 rfl Tryd.underlying36 info5 rfl (by decide) (by omega) u5 x5_1 (bt a0 x6_1) [.int .u8 (bt a0 x6_1)] (fun _ => True) (fun _ => False) rfl rfl ?aP (fun _ hk => hk.elim) ?aF ?aO ?aB ?aS ?aL ?_; (case aP => exact rfl); (case aB => exact x48_3); (case aF => exact (fun _ _ => trivial)); (case aO => exact x48_6); (case aS => exact (below_size x48_3)); (case aL => have := LMc16.out; omega); intro v155 w17 ho hb hg hat; rw [← Ny154.out] at ho; have n0_ := Aside0.mk (blk_grown (g := gb153) (o := .cells #[.int .i64 x154000_1, .int .i64 x154001_1, .string x154002_1, .int .i64 x154003_1, .int .u64 x154004_1] 30 (0, 0)) x48_7 hg (Kd.R_ne HO_5.out BK153.out (by decide))); have n1_ := Aside0.mk (hb); have n2_ := Aside0.mk (ho); clear BK153; clear HB; clear HO_5; have BK153 := n0_; have HB := n1_; have HO156 := n2_; clear n0_ n1_ n2_; clear ho hb hg hat))
            go_roundg kj11
            case measure => have := HK1.out; have := HJ11.out; omega
            case rel => exact ⟨(y154), (wrap64 (x6_1 + 1)), (x154000_1), (x154001_1), (x154002_1), (x154003_1), (x154004_1), x48_12, H', ⟨by have := HK1.out; have := HJ11.out; omega⟩, ⟨by (with_reducible repeat (first | apply Kd.R_alloc | apply Kd.R_drewN | apply Kd.R_drew)); exact HO156.out⟩, ⟨x48_7⟩, ⟨x48_3⟩⟩
           ·rw [if_neg c16] at H
            exact absurd H (by simp)
          ·replace c15 := Bool.eq_false_iff.mpr c15
           subst c15
           rw [if_neg (show ¬ (false = true) by decide)] at H
           have HC18 := Aside0.mk H
           clear H
           go_upto_region 12 with (fail)
           go_cut [46] (fun v46 wc => ∃ (kq : Nat) (x46_17 : Bool), v46 = .bool x46_17 ∧ Aside0 (lex_quoted.j2 kq a0 x5_1 x6_1 (a0.extract ((ji6) : Int).toNat a0.size) x46_17 = some (r1, r2, r3, r4, r5, r6, r7)) ∧ Aside0 (kq ≤ kj11) ∧ Aside0 (Kd.R (Kd.int .u8) 5 wc w.heap.size (fun _ => True) u5 x5_1) ∧ Aside0 (wc.heap[gb153]? = some (.cells #[.int .i64 x154000_1, .int .i64 x154001_1, .string x154002_1, .int .i64 x154003_1, .int .u64 x154004_1] 30 (0, 0))) ∧ Aside0 (Below w.heap.size w wc))
           case first =>
            have H := HC18.out
            clear HC18
            by_cases c19 : (bt a0 x6_1) = 92
            ·rw [if_pos c19] at H
             have c19b0 := beq_iff_eq.mpr c19
             have c19b1 := bne_eq_false_iff_eq.mpr c19
             clear c19
             (first | rw [c19b0] | (simp only [i64_w, i32_w]; rw [c19b0]) | skip)
             have H' := Aside0.mk H
             clear H
             go_wp2
             go_meet
             case rel => exact ⟨_, (((a0.extract ((ji6) : Int).toNat a0.size).toList == ([] : List UInt8))), x48_8, H', ⟨by have := HK1.out; have := HJ11.out; first | omega | exact Nat.le_refl _⟩, ⟨x48_6⟩, ⟨x48_7⟩, ⟨x48_3⟩⟩
            ·rw [if_neg c19] at H
             have c19b0 := beq_eq_false_iff_ne.mpr c19
             have c19b1 := bne_iff_ne.mpr c19
             (first | rw [c19b0] | (simp only [i64_w, i32_w]; rw [c19b0]) | skip)
             have H' := Aside0.mk H
             clear H
             go_wp2
             go_meet
             case rel => exact ⟨_, (true), x48_12, H', ⟨by have := HK1.out; have := HJ11.out; first | omega | exact Nat.le_refl _⟩, ⟨x48_6⟩, ⟨x48_7⟩, ⟨x48_3⟩⟩
           case rest =>
            clear HC18
            obtain ⟨kq, x46_17, rfl, HA, HJ17, HO_5, BK153, HB⟩ := hcut
            cases kq with
            | zero => exact absurd HA.out (by simp [lex_quoted.j2])
            | succ kj17 =>
             have H := HA.out
             clear HA
             simp only [lex_quoted.j2] at H
             by_cases c20 : x46_17 = true
             ·subst c20
              rw [if_pos rfl] at H
              simp only [Option.some.injEq, Prod.mk.injEq] at H
              obtain ⟨rfl, rfl, rfl, rfl, rfl, rfl, rfl⟩ := H
              have hcz21_0 : wc.cell? ⟨gb153, 0, none⟩ = some (.int .i64 x154000_1) := (blk_cell BK153.out 0).trans rfl
              have hcz21_1 : wc.cell? ⟨gb153, 1, none⟩ = some (.int .i64 x154001_1) := (blk_cell BK153.out 1).trans rfl
              have hcz21_2 : wc.cell? ⟨gb153, 2, none⟩ = some (.string x154002_1) := (blk_cell BK153.out 2).trans rfl
              have hcz21_3 : wc.cell? ⟨gb153, 3, none⟩ = some (.int .i64 x154003_1) := (blk_cell BK153.out 3).trans rfl
              have hcz21_4 : wc.cell? ⟨gb153, 4, none⟩ = some (.int .u64 x154004_1) := (blk_cell BK153.out 4).trans rfl
              have hfz21_0 := blk_frozen BK153.out 0
              have hfz21_1 := blk_frozen BK153.out 1
              have hfz21_2 := blk_frozen BK153.out 2
              have hfz21_3 := blk_frozen BK153.out 3
              have hfz21_4 := blk_frozen BK153.out 4
              go_wp2
              refine bodyPost_ret (results_ctt rfl _ _ gb153 30 #[.int .i64 0, .int .i64 0, .string (⟨#[]⟩ : ByteArray), .int .i64 0, .int .u64 0] (0, 0) _ rfl x48_0 Tryd.underlying30 rfl (by kernel_rfl)) rfl ?_
              exact ⟨x48_1, x48_3⟩
             ·replace c20 := Bool.eq_false_iff.mpr c20
              subst c20
              rw [if_neg (show ¬ (false = true) by decide)] at H
              have HC22 := Aside0.mk H
              clear H
              go_upto_region 14 with (fail)
              go_cut [54] (fun v54 wc => ∃ (kq : Nat) (x54_21 : Bool), v54 = .bool x54_21 ∧ Aside0 (lex_quoted.j3 kq a0 x5_1 x6_1 (a0.extract ((ji6) : Int).toNat a0.size) x54_21 = some (r1, r2, r3, r4, r5, r6, r7)) ∧ Aside0 (kq ≤ kj17) ∧ Aside0 (Kd.R (Kd.int .u8) 5 wc w.heap.size (fun _ => True) u5 x5_1) ∧ Aside0 (wc.heap[gb153]? = some (.cells #[.int .i64 x154000_1, .int .i64 x154001_1, .string x154002_1, .int .i64 x154003_1, .int .u64 x154004_1] 30 (0, 0))) ∧ Aside0 (Below w.heap.size w wc))
              case first =>
               have H := HC22.out
               clear HC22
               by_cases c23 : 0 < ((a0.extract ((ji6) : Int).toNat a0.size).size : Int)
               ·rw [if_pos c23] at H
                have c23b0 := decide_eq_true c23
                try (have c23b0v := c23b0; simp only [ByteArray.size_extract, Nat.min_self] at c23b0v)
                have c23b1 : decide (0 < (a0.extract ((ji6) : Int).toNat a0.size).size) = true := decide_eq_true (by omega)
                try (have c23b1v := c23b1; simp only [ByteArray.size_extract, Nat.min_self] at c23b1v)
                clear c23
                (first | rw [c23b0] | (simp only [i64_w, i32_w]; rw [c23b0]) | skip)
                by_cases c25 : (bt (a0.extract ((ji6) : Int).toNat a0.size) 0) = 92
                ·rw [if_pos c25] at H
                 have c25b0 := beq_iff_eq.mpr c25
                 have c25b1 := bne_eq_false_iff_eq.mpr c25
                 clear c25
                 have H' := Aside0.mk H
                 clear H
                 have p24 : 0 ≤ (0 : Int) := (by omega)
                 have q24 : 0 < (a0.extract ((ji6) : Int).toNat a0.size).size := (by have : (0 : Int) < ((a0.extract ((ji6) : Int).toNat a0.size).size : Int) := of_decide_eq_true x48_11; omega)
                 have hx24 : ∀ h : 0 < (a0.extract ((ji6) : Int).toNat a0.size).size, (((a0.extract ((ji6) : Int).toNat a0.size)[0]'h).toNat : Int) = bt (a0.extract ((ji6) : Int).toNat a0.size) 0 := bt_at (a0.extract ((ji6) : Int).toNat a0.size) 0
                 clear p24
                 have qi24 : (0 < ((a0.extract ((ji6) : Int).toNat a0.size).size : Int)) = True := eq_true (of_decide_eq_true x48_11)
                 try (have qi24v := of_eq_true qi24; simp only [ByteArray.size_extract, Nat.min_self] at qi24v; replace qi24v := eq_true qi24v)
                 replace q24 := eq_true q24
                 try (have q24v := of_eq_true q24; simp only [ByteArray.size_extract, Nat.min_self] at q24v; replace q24v := eq_true q24v)
                 go_wp2
                 go_meet
                 case rel => exact ⟨_, (true), x48_12, H', ⟨x48_9⟩, ⟨x48_6⟩, ⟨x48_7⟩, ⟨x48_3⟩⟩
                ·rw [if_neg c25] at H
                 have c25b0 := beq_eq_false_iff_ne.mpr c25
                 have c25b1 := bne_iff_ne.mpr c25
                 have H' := Aside0.mk H
                 clear H
                 have p24 : 0 ≤ (0 : Int) := (by omega)
                 have q24 : 0 < (a0.extract ((ji6) : Int).toNat a0.size).size := (by have : (0 : Int) < ((a0.extract ((ji6) : Int).toNat a0.size).size : Int) := of_decide_eq_true x48_11; omega)
                 have hx24 : ∀ h : 0 < (a0.extract ((ji6) : Int).toNat a0.size).size, (((a0.extract ((ji6) : Int).toNat a0.size)[0]'h).toNat : Int) = bt (a0.extract ((ji6) : Int).toNat a0.size) 0 := bt_at (a0.extract ((ji6) : Int).toNat a0.size) 0
                 clear p24
                 have qi24 : (0 < ((a0.extract ((ji6) : Int).toNat a0.size).size : Int)) = True := eq_true (of_decide_eq_true x48_11)
                 try (have qi24v := of_eq_true qi24; simp only [ByteArray.size_extract, Nat.min_self] at qi24v; replace qi24v := eq_true qi24v)
                 replace q24 := eq_true q24
                 try (have q24v := of_eq_true q24; simp only [ByteArray.size_extract, Nat.min_self] at q24v; replace q24v := eq_true q24v)
                 have p26 : 0 ≤ (0 : Int) := (by omega)
                 have q26 : 0 < (a0.extract ((ji6) : Int).toNat a0.size).size := (by have : (0 : Int) < ((a0.extract ((ji6) : Int).toNat a0.size).size : Int) := of_decide_eq_true x48_11; omega)
                 have hx26 : ∀ h : 0 < (a0.extract ((ji6) : Int).toNat a0.size).size, (((a0.extract ((ji6) : Int).toNat a0.size)[0]'h).toNat : Int) = bt (a0.extract ((ji6) : Int).toNat a0.size) 0 := bt_at (a0.extract ((ji6) : Int).toNat a0.size) 0
                 clear p26
                 have qi26 : (0 < ((a0.extract ((ji6) : Int).toNat a0.size).size : Int)) = True := eq_true (of_decide_eq_true x48_11)
                 try (have qi26v := of_eq_true qi26; simp only [ByteArray.size_extract, Nat.min_self] at qi26v; replace qi26v := eq_true qi26v)
                 replace q26 := eq_true q26
                 try (have q26v := of_eq_true q26; simp only [ByteArray.size_extract, Nat.min_self] at q26v; replace q26v := eq_true q26v)
                 go_wp2
                 go_meet
                 case rel => exact ⟨_, (((bt (a0.extract ((ji6) : Int).toNat a0.size) 0) == 34)), x48_8, H', ⟨x48_9⟩, ⟨x48_6⟩, ⟨x48_7⟩, ⟨x48_3⟩⟩
               ·rw [if_neg c23] at H
                exact absurd H (by simp)
              case rest =>
               clear HC22
               obtain ⟨kq, x54_21, rfl, HA, HJ21, HO_5, BK153, HB⟩ := hcut
               cases kq with
               | zero => exact absurd HA.out (by simp [lex_quoted.j3])
               | succ kj21 =>
                have H := HA.out
                clear HA
                simp only [lex_quoted.j3] at H
                by_cases c27 : x54_21 = true
                ·subst c27
                 rw [if_pos rfl] at H
                 by_cases c28 : 0 < ((a0.extract ((ji6) : Int).toNat a0.size).size : Int)
                 ·rw [if_pos c28] at H
                  have c28b0 := decide_eq_true c28
                  try (have c28b0v := c28b0; simp only [ByteArray.size_extract, Nat.min_self] at c28b0v)
                  have c28b1 : decide (0 < (a0.extract ((ji6) : Int).toNat a0.size).size) = true := decide_eq_true (by omega)
                  try (have c28b1v := c28b1; simp only [ByteArray.size_extract, Nat.min_self] at c28b1v)
                  clear c28
                  by_cases c30 : x5_1.length < 140737488355328
                  ·rw [if_pos c30] at H
                   have LMc30 := Aside0.mk c30
                   clear c30
                   obtain ⟨y157, hy157⟩ : ∃ y_ : List Int, y_ = (x5_1 ++ [bt (a0.extract ((ji6) : Int).toNat a0.size) 0]) := ⟨_, rfl⟩
                   replace H : (lex_quoted.l0 kj21 a0 y157 (wrap64 ((wrap64 (x6_1 + 1)) + 1))) = some (r1, r2, r3, r4, r5, r6, r7) := by first | (rw [hy157]; with_reducible exact H) | (have H2_ := (Option.bind_some _ _).symm.trans H; rw [hy157]; with_reducible exact H2_) | (have H2_ := (Option.bind_some _ _).symm.trans H; with_reducible exact H2_) | with_reducible exact H | (rw [hy157]; exact H) | exact H
                   have Ny157 := Aside0.mk hy157
                   clear hy157
                   have H' := Aside0.mk H
                   clear H
                   have p29 : 0 ≤ (0 : Int) := (by omega)
                   have q29 : 0 < (a0.extract ((ji6) : Int).toNat a0.size).size := (by have : (0 : Int) < ((a0.extract ((ji6) : Int).toNat a0.size).size : Int) := of_decide_eq_true x48_11; omega)
                   have hx29 : ∀ h : 0 < (a0.extract ((ji6) : Int).toNat a0.size).size, (((a0.extract ((ji6) : Int).toNat a0.size)[0]'h).toNat : Int) = bt (a0.extract ((ji6) : Int).toNat a0.size) 0 := bt_at (a0.extract ((ji6) : Int).toNat a0.size) 0
                   clear p29
                   have qi29 : (0 < ((a0.extract ((ji6) : Int).toNat a0.size).size : Int)) = True := eq_true (of_decide_eq_true x48_11)
                   try (have qi29v := of_eq_true qi29; simp only [ByteArray.size_extract, Nat.min_self] at qi29v; replace qi29v := eq_true qi29v)
                   replace q29 := eq_true q29
                   try (have q29v := of_eq_true q29; simp only [ByteArray.size_extract, Nat.min_self] at q29v; replace q29v := eq_true q29v)
                   go_wp2_with (first | ((with_reducible refine gate_builtin (b := .append) (xs := #[.tmp 63, .tmp 66]) rfl ?_); at_builtin; refine Kd.R_append (Kd.int .u8) (w0 := w) w.heap.size rfl (.tmp 63) (.tmp 66) 36 5 (.int .u8 0) 1 rfl Tryd.underlying36 info5 rfl (by decide) (by omega) u5 x5_1 (bt (a0.extract ((ji6) : Int).toNat a0.size) 0) [.int .u8 (bt (a0.extract ((ji6) : Int).toNat a0.size) 0)] (fun _ => True) (fun _ => False) rfl rfl ?aP (fun _ hk => hk.elim) ?aF ?aO ?aB ?aS ?aL ?_; (case aP => exact rfl); (case aB => exact x48_3); (case aF => exact (fun _ _ => trivial)); (case aO => exact x48_6); (case aS => exact (below_size x48_3)); (case aL => have := LMc30.out; omega); intro v158 w31 ho hb hg hat; rw [← Ny157.out] at ho; have n0_ := Aside0.mk (blk_grown (g := gb153) (o := .cells #[.int .i64 x154000_1, .int .i64 x154001_1, .string x154002_1, .int .i64 x154003_1, .int .u64 x154004_1] 30 (0, 0)) x48_7 hg (Kd.R_ne HO_5.out BK153.out (by decide))); have n1_ := Aside0.mk (hb); have n2_ := Aside0.mk (ho); clear BK153; clear HB; clear HO_5; have BK153 := n0_; have HB := n1_; have HO159 := n2_; clear n0_ n1_ n2_; clear ho hb hg hat))
                   go_roundg kj21
                   case measure => have := HK1.out; have := HJ11.out; have := HJ17.out; have := HJ21.out; omega
                   case rel => exact ⟨(y157), (wrap64 ((wrap64 (x6_1 + 1)) + 1)), (x154000_1), (x154001_1), (x154002_1), (x154003_1), (x154004_1), x48_12, H', ⟨by have := HK1.out; have := HJ11.out; have := HJ17.out; have := HJ21.out; omega⟩, ⟨by (with_reducible repeat (first | apply Kd.R_alloc | apply Kd.R_drewN | apply Kd.R_drew)); exact HO159.out⟩, ⟨x48_7⟩, ⟨x48_3⟩⟩
                  ·rw [if_neg c30] at H
                   exact absurd H (by simp)
                 ·rw [if_neg c28] at H
                  exact absurd H (by simp)
                ·replace c27 := Bool.eq_false_iff.mpr c27
                 subst c27
                 rw [if_neg (show ¬ (false = true) by decide)] at H
                 by_cases c32 : 0 < ((a0.extract ((ji6) : Int).toNat a0.size).size : Int)
                 ·rw [if_pos c32] at H
                  have c32b0 := decide_eq_true c32
                  try (have c32b0v := c32b0; simp only [ByteArray.size_extract, Nat.min_self] at c32b0v)
                  have c32b1 : decide (0 < (a0.extract ((ji6) : Int).toNat a0.size).size) = true := decide_eq_true (by omega)
                  try (have c32b1v := c32b1; simp only [ByteArray.size_extract, Nat.min_self] at c32b1v)
                  clear c32
                  by_cases c34 : (bt (a0.extract ((ji6) : Int).toNat a0.size) 0) = 110
                  ·rw [if_pos c34] at H
                   have c34b0 := beq_iff_eq.mpr c34
                   have c34b1 := bne_eq_false_iff_eq.mpr c34
                   clear c34
                   by_cases c35 : x5_1.length < 140737488355328
                   ·rw [if_pos c35] at H
                    have LMc35 := Aside0.mk c35
                    clear c35
                    obtain ⟨y160, hy160⟩ : ∃ y_ : List Int, y_ = (x5_1 ++ [10]) := ⟨_, rfl⟩
                    replace H : (lex_quoted.l0 kj21 a0 y160 (wrap64 ((wrap64 (x6_1 + 1)) + 1))) = some (r1, r2, r3, r4, r5, r6, r7) := by first | (rw [hy160]; with_reducible exact H) | (have H2_ := (Option.bind_some _ _).symm.trans H; rw [hy160]; with_reducible exact H2_) | (have H2_ := (Option.bind_some _ _).symm.trans H; with_reducible exact H2_) | with_reducible exact H | (rw [hy160]; exact H) | exact H
                    have Ny160 := Aside0.mk hy160
                    clear hy160
                    have H' := Aside0.mk H
                    clear H
                    have p33 : 0 ≤ (0 : Int) := (by omega)
                    have q33 : 0 < (a0.extract ((ji6) : Int).toNat a0.size).size := (by have : (0 : Int) < ((a0.extract ((ji6) : Int).toNat a0.size).size : Int) := of_decide_eq_true x48_11; omega)
                    have hx33 : ∀ h : 0 < (a0.extract ((ji6) : Int).toNat a0.size).size, (((a0.extract ((ji6) : Int).toNat a0.size)[0]'h).toNat : Int) = bt (a0.extract ((ji6) : Int).toNat a0.size) 0 := bt_at (a0.extract ((ji6) : Int).toNat a0.size) 0
                    clear p33
                    have qi33 : (0 < ((a0.extract ((ji6) : Int).toNat a0.size).size : Int)) = True := eq_true (of_decide_eq_true x48_11)
                    try (have qi33v := of_eq_true qi33; simp only [ByteArray.size_extract, Nat.min_self] at qi33v; replace qi33v := eq_true qi33v)
                    replace q33 := eq_true q33
                    try (have q33v := of_eq_true q33; simp only [ByteArray.size_extract, Nat.min_self] at q33v; replace q33v := eq_true q33v)
                    go_wp2_with (first | ((with_reducible refine gate_builtin (b := .append) (xs := #[.tmp 74, .tmp 75]) rfl ?_); at_builtin; refine Kd.R_append (Kd.int .u8) (w0 := w) w.heap.size rfl (.tmp 74) (.tmp 75) 36 5 (.int .u8 0) 1 rfl Tryd.underlying36 info5 rfl (by decide) (by omega) u5 x5_1 10 [.int .u8 10] (fun _ => True) (fun _ => False) rfl rfl ?aP (fun _ hk => hk.elim) ?aF ?aO ?aB ?aS ?aL ?_; (case aP => exact rfl); (case aB => exact x48_3); (case aF => exact (fun _ _ => trivial)); (case aO => exact x48_6); (case aS => exact (below_size x48_3)); (case aL => have := LMc35.out; omega); intro v161 w36 ho hb hg hat; rw [← Ny160.out] at ho; have n0_ := Aside0.mk (blk_grown (g := gb153) (o := .cells #[.int .i64 x154000_1, .int .i64 x154001_1, .string x154002_1, .int .i64 x154003_1, .int .u64 x154004_1] 30 (0, 0)) x48_7 hg (Kd.R_ne HO_5.out BK153.out (by decide))); have n1_ := Aside0.mk (hb); have n2_ := Aside0.mk (ho); clear BK153; clear HB; clear HO_5; have BK153 := n0_; have HB := n1_; have HO162 := n2_; clear n0_ n1_ n2_; clear ho hb hg hat))
                    go_roundg kj21
                    case measure => have := HK1.out; have := HJ11.out; have := HJ17.out; have := HJ21.out; omega
                    case rel => exact ⟨(y160), (wrap64 ((wrap64 (x6_1 + 1)) + 1)), (x154000_1), (x154001_1), (x154002_1), (x154003_1), (x154004_1), x48_12, H', ⟨by have := HK1.out; have := HJ11.out; have := HJ17.out; have := HJ21.out; omega⟩, ⟨by (with_reducible repeat (first | apply Kd.R_alloc | apply Kd.R_drewN | apply Kd.R_drew)); exact HO162.out⟩, ⟨x48_7⟩, ⟨x48_3⟩⟩
                   ·rw [if_neg c35] at H
                    exact absurd H (by simp)
                  ·rw [if_neg c34] at H
                   have c34b0 := beq_eq_false_iff_ne.mpr c34
                   have c34b1 := bne_iff_ne.mpr c34
                   have HC37 := Aside0.mk H
                   clear H
                   have p33 : 0 ≤ (0 : Int) := (by omega)
                   have q33 : 0 < (a0.extract ((ji6) : Int).toNat a0.size).size := (by have : (0 : Int) < ((a0.extract ((ji6) : Int).toNat a0.size).size : Int) := of_decide_eq_true x48_11; omega)
                   have hx33 : ∀ h : 0 < (a0.extract ((ji6) : Int).toNat a0.size).size, (((a0.extract ((ji6) : Int).toNat a0.size)[0]'h).toNat : Int) = bt (a0.extract ((ji6) : Int).toNat a0.size) 0 := bt_at (a0.extract ((ji6) : Int).toNat a0.size) 0
                   clear p33
                   have qi33 : (0 < ((a0.extract ((ji6) : Int).toNat a0.size).size : Int)) = True := eq_true (of_decide_eq_true x48_11)
                   try (have qi33v := of_eq_true qi33; simp only [ByteArray.size_extract, Nat.min_self] at qi33v; replace qi33v := eq_true qi33v)
                   replace q33 := eq_true q33
                   try (have q33v := of_eq_true q33; simp only [ByteArray.size_extract, Nat.min_self] at q33v; replace q33v := eq_true q33v)
                   go_upto_region 20 with (fail)
                   go_cut [79] (fun v79 wc => ∃ (kq : Nat) (x79_36 : Bool), v79 = .bool x79_36 ∧ Aside0 (lex_quoted.j4 kq a0 x5_1 x6_1 (a0.extract ((ji6) : Int).toNat a0.size) x79_36 = some (r1, r2, r3, r4, r5, r6, r7)) ∧ Aside0 (kq ≤ kj21) ∧ Aside0 (Kd.R (Kd.int .u8) 5 wc w.heap.size (fun _ => True) u5 x5_1) ∧ Aside0 (wc.heap[gb153]? = some (.cells #[.int .i64 x154000_1, .int .i64 x154001_1, .string x154002_1, .int .i64 x154003_1, .int .u64 x154004_1] 30 (0, 0))) ∧ Aside0 (Below w.heap.size w wc))
                   case first =>
                    have H := HC37.out
                    clear HC37
                    by_cases c38 : ((a0.extract ((ji6) : Int).toNat a0.size).size : Int) > 2
                    ·rw [if_pos c38] at H
                     have c38b0 : decide (2 < ((a0.extract ((ji6) : Int).toNat a0.size).size : Int)) = true := decide_eq_true c38
                     try (have c38b0v := c38b0; simp only [ByteArray.size_extract, Nat.min_self] at c38b0v)
                     have c38b1 : decide (2 < (a0.extract ((ji6) : Int).toNat a0.size).size) = true := decide_eq_true (by omega)
                     try (have c38b1v := c38b1; simp only [ByteArray.size_extract, Nat.min_self] at c38b1v)
                     clear c38
                     (first | rw [c38b0] | (simp only [i64_w, i32_w]; rw [c38b0]) | skip)
                     by_cases c40 : (bt (a0.extract ((ji6) : Int).toNat a0.size) 0) = 120
                     ·rw [if_pos c40] at H
                      have c40b0 := beq_iff_eq.mpr c40
                      have c40b1 := bne_eq_false_iff_eq.mpr c40
                      clear c40
                      by_cases c41 : 1 < ((a0.extract ((ji6) : Int).toNat a0.size).size : Int)
                      ·rw [if_pos c41] at H
                       have c41b0 := decide_eq_true c41
                       try (have c41b0v := c41b0; simp only [ByteArray.size_extract, Nat.min_self] at c41b0v)
                       have c41b1 : decide (1 < (a0.extract ((ji6) : Int).toNat a0.size).size) = true := decide_eq_true (by omega)
                       try (have c41b1v := c41b1; simp only [ByteArray.size_extract, Nat.min_self] at c41b1v)
                       clear c41
                       obtain ⟨t163, A430, H⟩ := Option.bind_eq_some_iff.mp H
                       have A43 := Aside0.mk A430
                       clear A430
                       by_cases c44 : t163 = true
                       ·subst c44
                        rw [if_pos rfl] at H
                        by_cases c45 : 2 < ((a0.extract ((ji6) : Int).toNat a0.size).size : Int)
                        ·rw [if_pos c45] at H
                         have c45b0 := decide_eq_true c45
                         try (have c45b0v := c45b0; simp only [ByteArray.size_extract, Nat.min_self] at c45b0v)
                         have c45b1 : decide (2 < (a0.extract ((ji6) : Int).toNat a0.size).size) = true := decide_eq_true (by omega)
                         try (have c45b1v := c45b1; simp only [ByteArray.size_extract, Nat.min_self] at c45b1v)
                         clear c45
                         obtain ⟨t164, A470, H⟩ := Option.bind_eq_some_iff.mp H
                         have A47 := Aside0.mk A470
                         clear A470
                         have H' := Aside0.mk H
                         clear H
                         have p39 : 0 ≤ (0 : Int) := (by omega)
                         have q39 : 0 < (a0.extract ((ji6) : Int).toNat a0.size).size := (by have : (0 : Int) < ((a0.extract ((ji6) : Int).toNat a0.size).size : Int) := of_decide_eq_true x48_11; omega)
                         have hx39 : ∀ h : 0 < (a0.extract ((ji6) : Int).toNat a0.size).size, (((a0.extract ((ji6) : Int).toNat a0.size)[0]'h).toNat : Int) = bt (a0.extract ((ji6) : Int).toNat a0.size) 0 := bt_at (a0.extract ((ji6) : Int).toNat a0.size) 0
                         clear p39
                         have qi39 : (0 < ((a0.extract ((ji6) : Int).toNat a0.size).size : Int)) = True := eq_true (of_decide_eq_true x48_11)
                         try (have qi39v := of_eq_true qi39; simp only [ByteArray.size_extract, Nat.min_self] at qi39v; replace qi39v := eq_true qi39v)
                         replace q39 := eq_true q39
                         try (have q39v := of_eq_true q39; simp only [ByteArray.size_extract, Nat.min_self] at q39v; replace q39v := eq_true q39v)
                         have p42 : 0 ≤ (1 : Int) := (by omega)
                         have q42 : 1 < (a0.extract ((ji6) : Int).toNat a0.size).size := (by have : (1 : Int) < ((a0.extract ((ji6) : Int).toNat a0.size).size : Int) := of_decide_eq_true x48_11; omega)
                         have hx42 : ∀ h : 1 < (a0.extract ((ji6) : Int).toNat a0.size).size, (((a0.extract ((ji6) : Int).toNat a0.size)[1]'h).toNat : Int) = bt (a0.extract ((ji6) : Int).toNat a0.size) 1 := bt_at (a0.extract ((ji6) : Int).toNat a0.size) 1
                         clear p42
                         have qi42 : (1 < ((a0.extract ((ji6) : Int).toNat a0.size).size : Int)) = True := eq_true (of_decide_eq_true x48_11)
                         try (have qi42v := of_eq_true qi42; simp only [ByteArray.size_extract, Nat.min_self] at qi42v; replace qi42v := eq_true qi42v)
                         replace q42 := eq_true q42
                         try (have q42v := of_eq_true q42; simp only [ByteArray.size_extract, Nat.min_self] at q42v; replace q42v := eq_true q42v)
                         go_wp2_with (first | (go_at_call 60; (with_reducible refine (lex_hex.calls (bt (a0.extract ((ji6) : Int).toNat a0.size) 1) true _ A43.out).mono ?_); rintro e w' ⟨rfl, ⟨nd, rfl⟩⟩; have p46 : 0 ≤ (2 : Int) := (by omega); have q46 : 2 < (a0.extract ((ji6) : Int).toNat a0.size).size := (by have : (2 : Int) < ((a0.extract ((ji6) : Int).toNat a0.size).size : Int) := of_decide_eq_true x48_11; omega); have hx46 : ∀ h : 2 < (a0.extract ((ji6) : Int).toNat a0.size).size, (((a0.extract ((ji6) : Int).toNat a0.size)[2]'h).toNat : Int) = bt (a0.extract ((ji6) : Int).toNat a0.size) 2 := bt_at (a0.extract ((ji6) : Int).toNat a0.size) 2; clear p46; have qi46 : (2 < ((a0.extract ((ji6) : Int).toNat a0.size).size : Int)) = True := eq_true (of_decide_eq_true x48_11); try (have qi46v := of_eq_true qi46; simp only [ByteArray.size_extract, Nat.min_self] at qi46v; replace qi46v := eq_true qi46v); replace q46 := eq_true q46; try (have q46v := of_eq_true q46; simp only [ByteArray.size_extract, Nat.min_self] at q46v; replace q46v := eq_true q46v)) | (go_at_call 60; (with_reducible refine (lex_hex.calls (bt (a0.extract ((ji6) : Int).toNat a0.size) 2) t164 _ A47.out).mono ?_); rintro e w' ⟨rfl, ⟨nd, rfl⟩⟩))
                         go_meet
                         case rel => exact ⟨_, (t164), x48_12, H', ⟨x48_5⟩, ⟨x48_6⟩, ⟨x48_7⟩, ⟨x48_3⟩⟩
                        ·rw [if_neg c45] at H
                         exact absurd H (by simp)
                       ·replace c44 := Bool.eq_false_iff.mpr c44
                        subst c44
                        rw [if_neg (show ¬ (false = true) by decide)] at H
                        have H' := Aside0.mk H
                        clear H
                        have p39 : 0 ≤ (0 : Int) := (by omega)
                        have q39 : 0 < (a0.extract ((ji6) : Int).toNat a0.size).size := (by have : (0 : Int) < ((a0.extract ((ji6) : Int).toNat a0.size).size : Int) := of_decide_eq_true x48_11; omega)
                        have hx39 : ∀ h : 0 < (a0.extract ((ji6) : Int).toNat a0.size).size, (((a0.extract ((ji6) : Int).toNat a0.size)[0]'h).toNat : Int) = bt (a0.extract ((ji6) : Int).toNat a0.size) 0 := bt_at (a0.extract ((ji6) : Int).toNat a0.size) 0
                        clear p39
                        have qi39 : (0 < ((a0.extract ((ji6) : Int).toNat a0.size).size : Int)) = True := eq_true (of_decide_eq_true x48_11)
                        try (have qi39v := of_eq_true qi39; simp only [ByteArray.size_extract, Nat.min_self] at qi39v; replace qi39v := eq_true qi39v)
                        replace q39 := eq_true q39
                        try (have q39v := of_eq_true q39; simp only [ByteArray.size_extract, Nat.min_self] at q39v; replace q39v := eq_true q39v)
                        have p42 : 0 ≤ (1 : Int) := (by omega)
                        have q42 : 1 < (a0.extract ((ji6) : Int).toNat a0.size).size := (by have : (1 : Int) < ((a0.extract ((ji6) : Int).toNat a0.size).size : Int) := of_decide_eq_true x48_11; omega)
                        have hx42 : ∀ h : 1 < (a0.extract ((ji6) : Int).toNat a0.size).size, (((a0.extract ((ji6) : Int).toNat a0.size)[1]'h).toNat : Int) = bt (a0.extract ((ji6) : Int).toNat a0.size) 1 := bt_at (a0.extract ((ji6) : Int).toNat a0.size) 1
                        clear p42
                        have qi42 : (1 < ((a0.extract ((ji6) : Int).toNat a0.size).size : Int)) = True := eq_true (of_decide_eq_true x48_11)
                        try (have qi42v := of_eq_true qi42; simp only [ByteArray.size_extract, Nat.min_self] at qi42v; replace qi42v := eq_true qi42v)
                        replace q42 := eq_true q42
                        try (have q42v := of_eq_true q42; simp only [ByteArray.size_extract, Nat.min_self] at q42v; replace q42v := eq_true q42v)
                        go_wp2_with (first | (go_at_call 60; (with_reducible refine (lex_hex.calls (bt (a0.extract ((ji6) : Int).toNat a0.size) 1) false _ A43.out).mono ?_); rintro e w' ⟨rfl, ⟨nd, rfl⟩⟩))
                        go_meet
                        case rel => exact ⟨_, (false), x48_12, H', ⟨x48_5⟩, ⟨x48_6⟩, ⟨x48_7⟩, ⟨x48_3⟩⟩
                      ·rw [if_neg c41] at H
                       exact absurd H (by simp)
                     ·rw [if_neg c40] at H
                      have c40b0 := beq_eq_false_iff_ne.mpr c40
                      have c40b1 := bne_iff_ne.mpr c40
                      have H' := Aside0.mk H
                      clear H
                      have p39 : 0 ≤ (0 : Int) := (by omega)
                      have q39 : 0 < (a0.extract ((ji6) : Int).toNat a0.size).size := (by have : (0 : Int) < ((a0.extract ((ji6) : Int).toNat a0.size).size : Int) := of_decide_eq_true x48_11; omega)
                      have hx39 : ∀ h : 0 < (a0.extract ((ji6) : Int).toNat a0.size).size, (((a0.extract ((ji6) : Int).toNat a0.size)[0]'h).toNat : Int) = bt (a0.extract ((ji6) : Int).toNat a0.size) 0 := bt_at (a0.extract ((ji6) : Int).toNat a0.size) 0
                      clear p39
                      have qi39 : (0 < ((a0.extract ((ji6) : Int).toNat a0.size).size : Int)) = True := eq_true (of_decide_eq_true x48_11)
                      try (have qi39v := of_eq_true qi39; simp only [ByteArray.size_extract, Nat.min_self] at qi39v; replace qi39v := eq_true qi39v)
                      replace q39 := eq_true q39
                      try (have q39v := of_eq_true q39; simp only [ByteArray.size_extract, Nat.min_self] at q39v; replace q39v := eq_true q39v)
                      go_wp2
                      go_meet
                      case rel => exact ⟨_, (false), x48_12, H', ⟨x48_5⟩, ⟨x48_6⟩, ⟨x48_7⟩, ⟨x48_3⟩⟩
                    ·rw [if_neg c38] at H
                     have c38b0 : decide (2 < ((a0.extract ((ji6) : Int).toNat a0.size).size : Int)) = false := decide_eq_false c38
                     try (have c38b0v := c38b0; simp only [ByteArray.size_extract, Nat.min_self] at c38b0v)
                     have c38b1 : decide (2 < (a0.extract ((ji6) : Int).toNat a0.size).size) = false := decide_eq_false (by omega)
                     try (have c38b1v := c38b1; simp only [ByteArray.size_extract, Nat.min_self] at c38b1v)
                     clear c38
                     (first | rw [c38b0] | (simp only [i64_w, i32_w]; rw [c38b0]) | skip)
                     have H' := Aside0.mk H
                     clear H
                     go_wp2
                     go_meet
                     case rel => exact ⟨_, (false), x48_12, H', ⟨x48_5⟩, ⟨x48_6⟩, ⟨x48_7⟩, ⟨x48_3⟩⟩
                   case rest =>
                    clear HC37
                    obtain ⟨kq, x79_36, rfl, HA, HJ36, HO_5, BK153, HB⟩ := hcut
                    cases kq with
                    | zero => exact absurd HA.out (by simp [lex_quoted.j4])
                    | succ kj36 =>
                     have H := HA.out
                     clear HA
                     simp only [lex_quoted.j4] at H
                     by_cases c48 : x79_36 = true
                     ·subst c48
                      rw [if_pos rfl] at H
                      by_cases c49 : 1 < ((a0.extract ((ji6) : Int).toNat a0.size).size : Int)
                      ·rw [if_pos c49] at H
                       have c49b0 := decide_eq_true c49
                       try (have c49b0v := c49b0; simp only [ByteArray.size_extract, Nat.min_self] at c49b0v)
                       have c49b1 : decide (1 < (a0.extract ((ji6) : Int).toNat a0.size).size) = true := decide_eq_true (by omega)
                       try (have c49b1v := c49b1; simp only [ByteArray.size_extract, Nat.min_self] at c49b1v)
                       clear c49
                       obtain ⟨t165, A510, H⟩ := Option.bind_eq_some_iff.mp H
                       have A51 := Aside0.mk A510
                       clear A510
                       by_cases c52 : 2 < ((a0.extract ((ji6) : Int).toNat a0.size).size : Int)
                       ·rw [if_pos c52] at H
                        have c52b0 := decide_eq_true c52
                        try (have c52b0v := c52b0; simp only [ByteArray.size_extract, Nat.min_self] at c52b0v)
                        have c52b1 : decide (2 < (a0.extract ((ji6) : Int).toNat a0.size).size) = true := decide_eq_true (by omega)
                        try (have c52b1v := c52b1; simp only [ByteArray.size_extract, Nat.min_self] at c52b1v)
                        clear c52
                        obtain ⟨t166, A540, H⟩ := Option.bind_eq_some_iff.mp H
                        have A54 := Aside0.mk A540
                        clear A540
                        by_cases c55 : x5_1.length < 140737488355328
                        ·rw [if_pos c55] at H
                         have LMc55 := Aside0.mk c55
                         clear c55
                         obtain ⟨y167, hy167⟩ : ∃ y_ : List Int, y_ = (x5_1 ++ [Go.bits .or .u8 ((t165 * 16) % 256) t166]) := ⟨_, rfl⟩
                         replace H : (lex_quoted.l0 kj36 a0 y167 (wrap64 ((wrap64 (x6_1 + 3)) + 1))) = some (r1, r2, r3, r4, r5, r6, r7) := by first | (rw [hy167]; with_reducible exact H) | (have H2_ := (Option.bind_some _ _).symm.trans H; rw [hy167]; with_reducible exact H2_) | (have H2_ := (Option.bind_some _ _).symm.trans H; with_reducible exact H2_) | with_reducible exact H | (rw [hy167]; exact H) | exact H
                         have Ny167 := Aside0.mk hy167
                         clear hy167
                         have H' := Aside0.mk H
                         clear H
                         try go_wp2
                         have n0_ := Aside0.mk (Kd.R_drew HO_5.out)
                         have n1_ := Aside0.mk (blk_drew BK153.out)
                         have n2_ := Aside0.mk (below_drew1 HB.out)
                         clear HO_5
                         clear BK153
                         clear HB
                         have HO_5 := n0_
                         have BK153 := n1_
                         have HB := n2_
                         clear n0_ n1_ n2_
                         have p50 : 0 ≤ (1 : Int) := (by omega)
                         have q50 : 1 < (a0.extract ((ji6) : Int).toNat a0.size).size := (by have : (1 : Int) < ((a0.extract ((ji6) : Int).toNat a0.size).size : Int) := of_decide_eq_true x48_11; omega)
                         have hx50 : ∀ h : 1 < (a0.extract ((ji6) : Int).toNat a0.size).size, (((a0.extract ((ji6) : Int).toNat a0.size)[1]'h).toNat : Int) = bt (a0.extract ((ji6) : Int).toNat a0.size) 1 := bt_at (a0.extract ((ji6) : Int).toNat a0.size) 1
                         clear p50
                         have qi50 : (1 < ((a0.extract ((ji6) : Int).toNat a0.size).size : Int)) = True := eq_true (of_decide_eq_true x48_11)
                         try (have qi50v := of_eq_true qi50; simp only [ByteArray.size_extract, Nat.min_self] at qi50v; replace qi50v := eq_true qi50v)
                         replace q50 := eq_true q50
                         try (have q50v := of_eq_true q50; simp only [ByteArray.size_extract, Nat.min_self] at q50v; replace q50v := eq_true q50v)
                         have p53 : 0 ≤ (2 : Int) := (by omega)
                         have q53 : 2 < (a0.extract ((ji6) : Int).toNat a0.size).size := (by have : (2 : Int) < ((a0.extract ((ji6) : Int).toNat a0.size).size : Int) := of_decide_eq_true x48_11; omega)
                         have hx53 : ∀ h : 2 < (a0.extract ((ji6) : Int).toNat a0.size).size, (((a0.extract ((ji6) : Int).toNat a0.size)[2]'h).toNat : Int) = bt (a0.extract ((ji6) : Int).toNat a0.size) 2 := bt_at (a0.extract ((ji6) : Int).toNat a0.size) 2
                         clear p53
                         have qi53 : (2 < ((a0.extract ((ji6) : Int).toNat a0.size).size : Int)) = True := eq_true (of_decide_eq_true x48_11)
                         try (have qi53v := of_eq_true qi53; simp only [ByteArray.size_extract, Nat.min_self] at qi53v; replace qi53v := eq_true qi53v)
                         replace q53 := eq_true q53
                         try (have q53v := of_eq_true q53; simp only [ByteArray.size_extract, Nat.min_self] at q53v; replace q53v := eq_true q53v)
                         refine start_ (n := 12) (S := fun w' => True) (ds := []) #[false, false, false, false, false, false, false, false, false, false, false, false] (by kernel_rfl) rfl rfl trivial (fun hHeld => ?_); refine with_tabW lex_quoted.tab21 lex_quoted.bits21 (fun HT_ HW_ => ?_)
                         generalize wc.drew = w56 at HO_5 BK153 HB hHeld ⊢
                         refine pure_ (i := 0) (N := some 98) (v := ?_) (a' := ?_) #[true, false, false, false, false, false, false, false, false, false, false, false] rfl rfl (any_of HT_.out (by kernel_rfl)) (fun _ _ _ h => h) (Or.inl ⟨by rfl, ?_⟩) ?_ ?_
                         rotate_left
                         ·intro w'
                          go_simp
                          with_reducible rfl
                         rotate_left
                         ·simp only [Act.put, List.setIfInBounds_toArray, List.set_cons_zero, List.set_cons_succ, i64_w, i32_w]
                          rfl
                         refine pure_ (i := 1) (N := some 99) (v := ?_) (a' := ?_) #[true, true, false, false, false, false, false, false, false, false, false, false] rfl rfl (any_of HT_.out (by kernel_rfl)) (fun _ _ _ h => h) (Or.inl ⟨by rfl, ?_⟩) ?_ ?_
                         rotate_left
                         ·intro w'
                          go_simp
                          with_reducible rfl
                         rotate_left
                         ·simp only [Act.put, List.setIfInBounds_toArray, List.set_cons_zero, List.set_cons_succ, i64_w, i32_w]
                          rfl
                         refine pure_ (i := 5) (N := some 103) (v := ?_) (a' := ?_) #[true, true, false, false, false, true, false, false, false, false, false, false] rfl rfl (any_of HT_.out (by kernel_rfl)) (fun _ _ _ h => h) (Or.inl ⟨by rfl, ?_⟩) ?_ ?_
                         rotate_left
                         ·intro w'
                          go_simp
                          with_reducible rfl
                         rotate_left
                         ·simp only [Act.put, List.setIfInBounds_toArray, List.set_cons_zero, List.set_cons_succ, i64_w, i32_w]
                          rfl
                         refine take_ (i := 2) (N := some 100) (v := ?_) (a' := ?_) #[true, true, true, false, false, true, false, false, false, false, false, false] rfl rfl (take_ofW HT_.out HW_.out (by kernel_rfl)) (fun _ _ _ h => h) (Or.inl ⟨by rfl, ?_⟩) hHeld ?_ ?_
                         rotate_left
                         ·intro w' _
                          go_simp
                          with_reducible rfl
                         rotate_left
                         ·simp only [Act.put, List.setIfInBounds_toArray, List.set_cons_zero, List.set_cons_succ, i64_w, i32_w]
                          rfl
                         refine take_ (i := 6) (N := some 104) (v := ?_) (a' := ?_) #[true, true, true, false, false, true, true, false, false, false, false, false] rfl rfl (take_ofW HT_.out HW_.out (by kernel_rfl)) (fun _ _ _ h => h) (Or.inl ⟨by rfl, ?_⟩) hHeld ?_ ?_
                         rotate_left
                         ·intro w' _
                          go_simp
                          with_reducible rfl
                         rotate_left
                         ·simp only [Act.put, List.setIfInBounds_toArray, List.set_cons_zero, List.set_cons_succ, i64_w, i32_w]
                          rfl
                         refine one_ (i := 3) (N := some 101) #[true, true, true, true, false, true, true, false, false, false, false, false] rfl rfl (one_of HT_.out (by kernel_rfl)) (by decide) (fun K hK => ?_)
                         refine goes_ Tryd.func62 (by kernel_rfl) rfl #[.int .u8 (bt (a0.extract ((ji6) : Int).toNat a0.size) 1)] (by rfl) rfl rfl x48_2 ?_
                         with_reducible refine (lex_value.calls (bt (a0.extract ((ji6) : Int).toNat a0.size) 1) t165 _ A51.out).mono ?_
                         rintro e w' ⟨rfl, ⟨nd, rfl⟩⟩
                         refine ⟨_, rfl, ?_⟩
                         refine hK.out _ _ trivial (fun hHeld => ?_)
                         clear hK K
                         refine norm_ (a' := ?_) ?_ ?_
                         rotate_left
                         ·show Act.put _ (some 101) _ = _
                          simp only [Act.put, List.setIfInBounds_toArray, List.set_cons_zero, List.set_cons_succ, i64_w, i32_w]
                          rfl
                         refine pure_ (i := 4) (N := some 102) (v := ?_) (a' := ?_) #[true, true, true, true, true, true, true, false, false, false, false, false] rfl rfl (any_of HT_.out (by kernel_rfl)) (fun _ _ _ h => h) (Or.inl ⟨by rfl, ?_⟩) ?_ ?_
                         rotate_left
                         ·intro w'
                          go_simp
                          with_reducible rfl
                         rotate_left
                         ·simp only [Act.put, List.setIfInBounds_toArray, List.set_cons_zero, List.set_cons_succ, i64_w, i32_w]
                          rfl
                         refine one_ (i := 7) (N := some 105) #[true, true, true, true, true, true, true, true, false, false, false, false] rfl rfl (one_of HT_.out (by kernel_rfl)) (by decide) (fun K hK => ?_)
                         refine goes_ Tryd.func62 (by kernel_rfl) rfl #[.int .u8 (bt (a0.extract ((ji6) : Int).toNat a0.size) 2)] (by rfl) rfl rfl x48_2 ?_
                         with_reducible refine (lex_value.calls (bt (a0.extract ((ji6) : Int).toNat a0.size) 2) t166 _ A54.out).mono ?_
                         rintro e w' ⟨rfl, ⟨nd, rfl⟩⟩
                         refine ⟨_, rfl, ?_⟩
                         refine hK.out _ _ trivial (fun hHeld => ?_)
                         clear hK K
                         refine norm_ (a' := ?_) ?_ ?_
                         rotate_left
                         ·show Act.put _ (some 105) _ = _
                          simp only [Act.put, List.setIfInBounds_toArray, List.set_cons_zero, List.set_cons_succ, i64_w, i32_w]
                          rfl
                         refine pure_ (i := 8) (N := some 106) (v := ?_) (a' := ?_) #[true, true, true, true, true, true, true, true, true, false, false, false] rfl rfl (any_of HT_.out (by kernel_rfl)) (fun _ _ _ h => h) (Or.inl ⟨by rfl, ?_⟩) ?_ ?_
                         rotate_left
                         ·intro w'
                          go_simp
                          with_reducible rfl
                         rotate_left
                         ·simp only [Act.put, List.setIfInBounds_toArray, List.set_cons_zero, List.set_cons_succ, i64_w, i32_w]
                          rfl
                         refine one_ (i := 9) (N := some 107) #[true, true, true, true, true, true, true, true, true, true, false, false] rfl rfl (one_of HT_.out (by kernel_rfl)) (by decide) (fun K hK => ?_)
                         refine value_ (w1 := ?_) (v := ?_) (by rfl) rfl ?_ ?_
                         rotate_left 2
                         ·go_simp
                          constructor
                          ·rfl
                          ·rfl
                         refine hK.out _ _ trivial (fun hHeld => ?_)
                         clear hK K
                         refine norm_ (a' := ?_) ?_ ?_
                         rotate_left
                         ·show Act.put _ (some 107) _ = _
                          simp only [Act.put, List.setIfInBounds_toArray, List.set_cons_zero, List.set_cons_succ, i64_w, i32_w]
                          rfl
                         refine one_ (i := 10) (N := some 108) #[true, true, true, true, true, true, true, true, true, true, true, false] rfl rfl (one_of HT_.out (by kernel_rfl)) (by decide) (fun K hK => ?_)
                         refine Kd.R_append_step (Kd.int .u8) (w0 := w) w.heap.size (by rfl) (.tmp 98) (.tmp 107) 36 5 (.int .u8 0) 1 rfl Tryd.underlying36 info5 rfl (by decide) (by omega) u5 x5_1 (Go.bits .or .u8 ((t165 * 16) % 256) t166) [.int .u8 (Go.bits .or .u8 ((t165 * 16) % 256) t166)] (fun _ => True) (fun _ => False) rfl rfl ?aP (fun _ hk => hk.elim) ?aF ?aO ?aB ?aS ?aL ?_
                         (case aP => exact rfl)
                         (case aB => exact x48_3)
                         (case aF => exact (fun _ _ => trivial))
                         (case aO => exact x48_6)
                         (case aS => exact (below_size x48_3))
                         (case aL => have := LMc55.out; omega)
                         intro v168 w57 ho hb hg hat
                         rw [← Ny167.out] at ho
                         have n0_ := Aside0.mk (blk_grown (g := gb153) (o := .cells #[.int .i64 x154000_1, .int .i64 x154001_1, .string x154002_1, .int .i64 x154003_1, .int .u64 x154004_1] 30 (0, 0)) x48_7 hg (Kd.R_ne HO_5.out BK153.out (by decide)))
                         have n1_ := Aside0.mk (hb)
                         have n2_ := Aside0.mk (ho)
                         clear BK153
                         clear HB
                         clear HO_5
                         have BK153 := n0_
                         have HB := n1_
                         have HO169 := n2_
                         clear n0_ n1_ n2_
                         clear ho hb hg hat
                         refine hK.out _ _ trivial (fun hHeld => ?_)
                         clear hK K
                         refine norm_ (a' := ?_) ?_ ?_
                         rotate_left
                         ·show Act.put _ (some 108) _ = _
                          simp only [Act.put, List.setIfInBounds_toArray, List.set_cons_zero, List.set_cons_succ, i64_w, i32_w]
                          rfl
                         refine pure_ (i := 11) (N := some 5) (v := ?_) (a' := ?_) #[true, true, true, true, true, true, true, true, true, true, true, true] rfl rfl (any_of HT_.out (by kernel_rfl)) (fun _ _ _ h => h) (Or.inl ⟨by rfl, ?_⟩) ?_ ?_
                         rotate_left
                         ·intro w'
                          go_simp
                          with_reducible rfl
                         rotate_left
                         ·simp only [Act.put, List.setIfInBounds_toArray, List.set_cons_zero, List.set_cons_succ, i64_w, i32_w]
                          rfl
                         refine done_ (done_of HT_.out (by kernel_rfl)) ?_
                         try go_wp2
                         go_roundg kj36
                         case measure => have := HK1.out; have := HJ11.out; have := HJ17.out; have := HJ21.out; have := HJ36.out; omega
                         case rel => exact ⟨(y167), (wrap64 ((wrap64 (x6_1 + 3)) + 1)), (x154000_1), (x154001_1), (x154002_1), (x154003_1), (x154004_1), x48_12, H', ⟨by have := HK1.out; have := HJ11.out; have := HJ17.out; have := HJ21.out; have := HJ36.out; omega⟩, ⟨by (with_reducible repeat (first | apply Kd.R_alloc | apply Kd.R_drewN | apply Kd.R_drew)); exact HO169.out⟩, ⟨x48_7⟩, ⟨x48_3⟩⟩
                        ·rw [if_neg c55] at H
                         exact absurd H (by simp)
                       ·rw [if_neg c52] at H
                        exact absurd H (by simp)
                      ·rw [if_neg c49] at H
                       exact absurd H (by simp)
                     ·replace c48 := Bool.eq_false_iff.mpr c48
                      subst c48
                      rw [if_neg (show ¬ (false = true) by decide)] at H
                      simp only [Option.some.injEq, Prod.mk.injEq] at H
                      obtain ⟨rfl, rfl, rfl, rfl, rfl, rfl, rfl⟩ := H
                      have hcz58_0 : wc.cell? ⟨gb153, 0, none⟩ = some (.int .i64 x154000_1) := (blk_cell BK153.out 0).trans rfl
                      have hcz58_1 : wc.cell? ⟨gb153, 1, none⟩ = some (.int .i64 x154001_1) := (blk_cell BK153.out 1).trans rfl
                      have hcz58_2 : wc.cell? ⟨gb153, 2, none⟩ = some (.string x154002_1) := (blk_cell BK153.out 2).trans rfl
                      have hcz58_3 : wc.cell? ⟨gb153, 3, none⟩ = some (.int .i64 x154003_1) := (blk_cell BK153.out 3).trans rfl
                      have hcz58_4 : wc.cell? ⟨gb153, 4, none⟩ = some (.int .u64 x154004_1) := (blk_cell BK153.out 4).trans rfl
                      have hfz58_0 := blk_frozen BK153.out 0
                      have hfz58_1 := blk_frozen BK153.out 1
                      have hfz58_2 := blk_frozen BK153.out 2
                      have hfz58_3 := blk_frozen BK153.out 3
                      have hfz58_4 := blk_frozen BK153.out 4
                      go_wp2
                      refine bodyPost_ret (results_ctt rfl _ _ gb153 30 #[.int .i64 0, .int .i64 0, .string (⟨#[]⟩ : ByteArray), .int .i64 0, .int .u64 0] (0, 0) _ rfl x48_0 Tryd.underlying30 rfl (by kernel_rfl)) rfl ?_
                      exact ⟨x48_1, x48_3⟩
                 ·rw [if_neg c32] at H
                  exact absurd H (by simp)
      ·rw [if_neg c8] at H
       exact absurd H (by simp)
     ·rw [if_neg c7] at H
      exact absurd H (by simp)
    ·rw [if_neg c4] at H
     exact absurd H (by simp)
   ·rw [if_neg c3] at H
    have c3b0 := decide_eq_false c3
    clear c3
    simp only [Option.some.injEq, Prod.mk.injEq] at H
    obtain ⟨rfl, rfl, rfl, rfl, rfl, rfl, rfl⟩ := H
    have hcz59_0 : wr.cell? ⟨gb153, 0, none⟩ = some (.int .i64 x154000_1) := (blk_cell BK153.out 0).trans rfl
    have hcz59_1 : wr.cell? ⟨gb153, 1, none⟩ = some (.int .i64 x154001_1) := (blk_cell BK153.out 1).trans rfl
    have hcz59_2 : wr.cell? ⟨gb153, 2, none⟩ = some (.string x154002_1) := (blk_cell BK153.out 2).trans rfl
    have hcz59_3 : wr.cell? ⟨gb153, 3, none⟩ = some (.int .i64 x154003_1) := (blk_cell BK153.out 3).trans rfl
    have hcz59_4 : wr.cell? ⟨gb153, 4, none⟩ = some (.int .u64 x154004_1) := (blk_cell BK153.out 4).trans rfl
    have hfz59_0 := blk_frozen BK153.out 0
    have hfz59_1 := blk_frozen BK153.out 1
    have hfz59_2 := blk_frozen BK153.out 2
    have hfz59_3 := blk_frozen BK153.out 3
    have hfz59_4 := blk_frozen BK153.out 4
    go_wp2
    refine bodyPost_ret (results_ctt rfl _ _ gb153 30 #[.int .i64 0, .int .i64 0, .string (⟨#[]⟩ : ByteArray), .int .i64 0, .int .u64 0] (0, 0) _ rfl x48_0 Tryd.underlying30 rfl (by kernel_rfl)) rfl ?_
    exact ⟨by first | rfl | (simp [errW_none, errW_some] <;> rfl) | (simp [*, errW_none, errW_some] <;> rfl), x48_3⟩
end Go.Proofs.YtjolkombhdibcaaDoor.Print
end
section
namespace Go.Proofs.YtjolkombhdibcaaDoor.Print
open Go.RowKit Go.Proofs.YtjolkombhdibcaaDoor.Given Go.Proofs.YtjolkombhdibcaaDoorW.PrintWords Go.Proofs.YtjolkombhdibcaaDoorW.PrintLast Go.Proofs.YtjolkombhdibcaaDoorW.PrintMore
attribute [local go_sem] max2_int min2_int max_two min_two max_three min_three max_four min_four
set_option linter.unusedVariables false
set_option linter.unusedSimpArgs false
theorem x49_33 {p : Prop} (h : p := by first | omega | exact Nat.le_refl _) : p := h
theorem x49_32 {p : Prop} (h : p := by first | rfl | (simp; done) | (simp [*]; done)) : p := h
theorem x49_31 {p : Prop} (h : p := by first | (with_reducible assumption) | assumption) : p := h
theorem x49_30 {p : Prop} (h : p := by have := HJ2.out; first | omega | exact Nat.le_refl _) : p := h
theorem x49_29 {p : Prop} (h : p := by have := HJ2.out; have := HJ9.out; first | omega | exact Nat.le_refl _) : p := h
theorem x49_28 {p : Prop} (h : p := by first | rfl | (simp; done) | (simp only [← hji6] <;> (first | rfl | simp)) | (simp [*]; done)) : p := h
theorem x49_27 {p : Prop} (h : p := by first | rfl | (simp [errW_none, errW_some] <;> rfl) | (simp [*, errW_none, errW_some] <;> rfl)) : p := h
theorem x49_26 {p : Prop} (h : p := by first | rfl | (simp; done) | (simp only [← hji12] <;> (first | rfl | simp)) | (simp [*]; done)) : p := h
theorem x49_25 {p : Prop} (h : p := by (with_reducible repeat first | apply blk_drewN | apply blk_drew | apply blk_alloc); exact BK204.out) : p := h
theorem x49_24 {p : Prop} (h : p := by (with_reducible repeat first | apply blk_drewN | apply blk_drew | apply blk_alloc); exact BK198.out) : p := h
theorem x49_23 {p : Prop} (h : p := by (with_reducible repeat first | apply blk_drewN | apply blk_drew | apply blk_alloc); exact BK191.out) : p := h
theorem x49_22 {p : Prop} (h : p := by (with_reducible repeat first | apply blk_drewN | apply blk_drew | apply blk_alloc); exact BK184.out) : p := h
theorem x49_21 {p : Prop} (h : p := by (with_reducible repeat (first | apply Kd.R_alloc | apply Kd.R_drewN | apply Kd.R_drew)); exact HO_7.out) : p := h
theorem x49_20 {p : Prop} (h : p := by rw [← hq_]; exact x49_25) : p := h
theorem x49_19 {p : Prop} (h : p := by rw [← hq_]; exact x49_23) : p := h
theorem x49_18 {p : Prop} (h : p := by rw [← hq_]; exact x49_22) : p := h
theorem x49_17 {p : Prop} (h : p := by repeat (first | (with_reducible first | exact HB.out | apply below_alloc | apply pw_below_drewN | apply below_drew1) | exact HB.out)) : p := h
theorem x49_16 {p : Prop} (h : p := by (try simp only [List.map_toArray, List.map_cons, List.map_nil]); first | done | rfl | (simp only [List.length_drop, List.length_take]; rfl)) : p := h
theorem x49_15 {p : Prop} (h : p := by repeat (first | (with_reducible first | exact HB.out | apply below_alloc | apply pw_below_drewN | apply below_drew1 | refine below_set ?_ GE204.out) | exact HB.out)) : p := h
theorem x49_14 {p : Prop} (h : p := by repeat (first | (with_reducible first | exact HB.out | apply below_alloc | apply pw_below_drewN | apply below_drew1 | refine below_set ?_ GE198.out) | exact HB.out)) : p := h
theorem x49_13 {p : Prop} (h : p := by repeat (first | (with_reducible first | exact HB.out | apply below_alloc | apply pw_below_drewN | apply below_drew1 | refine below_set ?_ GE191.out) | exact HB.out)) : p := h
theorem x49_12 {p : Prop} (h : p := by repeat (first | (with_reducible first | exact HB.out | apply below_alloc | apply pw_below_drewN | apply below_drew1 | refine below_set ?_ GE184.out) | exact HB.out)) : p := h
theorem x49_11 {p : Prop} (h : p := by (try simp only [List.map_toArray, List.map_cons, List.map_nil]); first | done | (simp only [hji29]; rfl) | rfl | (simp only [List.length_drop, List.length_take]; rfl)) : p := h
theorem x49_10 {p : Prop} (h : p := by (try simp only [List.map_toArray, List.map_cons, List.map_nil]); first | done | (simp only [hji20]; rfl) | rfl | (simp only [List.length_drop, List.length_take]; rfl)) : p := h
theorem x49_9 {p : Prop} (h : p := by first | rfl | (simp [errW_none, errW_some] <;> rfl) | (simp only [← hji29]; first | rfl | (simp [errW_none, errW_some] <;> rfl)) | (simp [*, errW_none, errW_some] <;> rfl)) : p := h
theorem x49_8 {p : Prop} (h : p := by first | rfl | (simp [errW_none, errW_some] <;> rfl) | (simp only [← hji20]; first | rfl | (simp [errW_none, errW_some] <;> rfl)) | (simp [*, errW_none, errW_some] <;> rfl)) : p := h
theorem x49_7 {p : Prop} (h : p := by rw [← hq_]; exact x49_15) : p := h
theorem x49_6 {p : Prop} (h : p := by rw [← hq_]; exact x49_13) : p := h
theorem x49_5 {p : Prop} (h : p := by rw [← hq_]; exact x49_12) : p := h
theorem x49_4 {p : Prop} (h : p := by first | exact Glob.at_ HG0.out x49_15 | exact Glob.at_ HG0.out (Below.refl _ _)) : p := h
theorem x49_3 {p : Prop} (h : p := by first | exact Glob.at_ HG0.out x49_13 | exact Glob.at_ HG0.out (Below.refl _ _)) : p := h
theorem x49_2 {p : Prop} (h : p := by first | exact Glob.at_ HG0.out x49_12 | exact Glob.at_ HG0.out (Below.refl _ _)) : p := h
theorem x49_1 {p : Prop} (h : p := by (with_reducible repeat first | apply blk_drewN | apply blk_drew | apply blk_alloc); refine blk_put (cs := #[.int .i64 0, .int .i64 0, .string (⟨#[]⟩ : ByteArray), .int .i64 0, .int .u64 0]) ?_ 4 _ rfl; (with_reducible repeat first | apply blk_drewN | apply blk_drew | apply blk_alloc); refine blk_put (cs := #[.int .i64 0, .int .i64 0, .string (⟨#[]⟩ : ByteArray), .int .i64 0, .int .u64 0]) ?_ 3 _ rfl; (with_reducible repeat first | apply blk_drewN | apply blk_drew | apply blk_alloc); refine blk_put (cs := #[.int .i64 0, .int .i64 0, .string (⟨#[]⟩ : ByteArray), .int .i64 0, .int .u64 0]) ?_ 2 _ rfl; (with_reducible repeat first | apply blk_drewN | apply blk_drew | apply blk_alloc); refine blk_put (cs := #[.int .i64 0, .int .i64 0, .string (⟨#[]⟩ : ByteArray), .int .i64 0, .int .u64 0]) ?_ 1 _ rfl; (with_reducible repeat first | apply blk_drewN | apply blk_drew | apply blk_alloc); refine blk_put (cs := #[.int .i64 0, .int .i64 0, .string (⟨#[]⟩ : ByteArray), .int .i64 0, .int .u64 0]) ?_ 0 _ rfl; (with_reducible repeat first | apply blk_drewN | apply blk_drew | apply blk_alloc); exact BK184.out) : p := h
theorem x49_0 {p : Prop} (h : p := by (with_reducible repeat first | apply blk_drewN | apply blk_drew | apply blk_alloc); refine blk_put (cs := #[.int .i64 5, .int .i64 0, .string (⟨#[]⟩ : ByteArray), .int .i64 0, .int .u64 0]) ?_ 4 _ rfl; (with_reducible repeat first | apply blk_drewN | apply blk_drew | apply blk_alloc); refine blk_put (cs := #[.int .i64 5, .int .i64 0, .string (⟨#[]⟩ : ByteArray), .int .i64 0, .int .u64 0]) ?_ 3 _ rfl; (with_reducible repeat first | apply blk_drewN | apply blk_drew | apply blk_alloc); refine blk_put (cs := #[.int .i64 5, .int .i64 0, .string (⟨#[]⟩ : ByteArray), .int .i64 0, .int .u64 0]) ?_ 2 _ rfl; (with_reducible repeat first | apply blk_drewN | apply blk_drew | apply blk_alloc); refine blk_put (cs := #[.int .i64 5, .int .i64 0, .string (⟨#[]⟩ : ByteArray), .int .i64 0, .int .u64 0]) ?_ 1 _ rfl; (with_reducible repeat first | apply blk_drewN | apply blk_drew | apply blk_alloc); refine blk_put (cs := #[.int .i64 0, .int .i64 0, .string (⟨#[]⟩ : ByteArray), .int .i64 0, .int .u64 0]) ?_ 0 _ rfl; (with_reducible repeat first | apply blk_drewN | apply blk_drew | apply blk_alloc); exact BK184.out) : p := h
mutual
def lex_double.j0 : Nat → ByteArray → Int → Bool → Option (Int × Int × ByteArray × Int × Int × Int × Int)
 | 0, _, _, _ => none
 | k + 1, x0, x5, x20 => if x20 = true then (if (wrap64 (x5 + 1)) < (x0.size : Int) then (if 0 ≤ (wrap64 (x5 + 1)) then (if (bt x0 (wrap64 (x5 + 1))) = 43 then (lex_double.j1 k x0 (wrap64 (x5 + 1)) true) else (lex_double.j1 k x0 (wrap64 (x5 + 1)) ((bt x0 (wrap64 (x5 + 1))) == 45))) else (none)) else (lex_double.j1 k x0 (wrap64 (x5 + 1)) false)) else (if 0 ≤ x5 then (if x5 ≤ (x0.size : Int) then ((numtext_ParseFloat.f k (x0.extract 0 (x5 : Int).toNat)).bind fun bt189 => (if bt189.2 = 0 then (some (5, 0, (⟨#[]⟩ : ByteArray), 0, bt189.1, x5, 0)) else (some (0, 0, (⟨#[]⟩ : ByteArray), 0, 0, 0, 62)))) else (none)) else (none))
def lex_double.j1 : Nat → ByteArray → Int → Bool → Option (Int × Int × ByteArray × Int × Int × Int × Int)
 | 0, _, _, _ => none
 | k + 1, x0, x5, x38 => if x38 = true then (lex_double.j2 k x0 (wrap64 (x5 + 1))) else (lex_double.j2 k x0 x5)
def lex_double.j2 : Nat → ByteArray → Int → Option (Int × Int × ByteArray × Int × Int × Int × Int)
 | 0, _, _ => none
 | k + 1, x0, x5 => (lex_run.f x0 x5 8800000039).bind fun t186 => (if 0 ≤ (wrap64 (x5 + t186)) then (if (wrap64 (x5 + t186)) ≤ (x0.size : Int) then ((numtext_ParseFloat.f k (x0.extract 0 ((wrap64 (x5 + t186)) : Int).toNat)).bind fun bt187 => (if bt187.2 = 0 then (some (5, 0, (⟨#[]⟩ : ByteArray), 0, bt187.1, wrap64 (x5 + t186), 0)) else (some (0, 0, (⟨#[]⟩ : ByteArray), 0, 0, 0, 62)))) else (none)) else (none))
end
def lex_double.f (k : Nat) (a0 : ByteArray) : Option (Int × Int × ByteArray × Int × Int × Int × Int) := (lex_run.f a0 2 8800000059).bind fun t185 => (if (wrap64 (2 + t185)) < (a0.size : Int) then (if 0 ≤ (wrap64 (2 + t185)) then (lex_double.j0 k a0 (wrap64 (2 + t185)) ((bt a0 (wrap64 (2 + t185))) == 112)) else (none)) else (lex_double.j0 k a0 (wrap64 (2 + t185)) false))
set_option maxHeartbeats 8000000 in
set_option maxRecDepth 100000 in
theorem lex_double.calls (k : Nat) (a0 : ByteArray) (r1 : Int) (r2 : Int) (r3 : ByteArray) (r4 : Int) (r5 : Int) (r6 : Int) (r7 : Int) (w : World) (hG : Glob w) (h : lex_double.f k a0 = some (r1, r2, r3, r4, r5, r6, r7)) :
  Calls Tryd.prog 38 #[.string a0] w fun e w' => e = .returned (.tuple #[.agg #[.int .i64 r1, .int .i64 r2, .string r3, .int .i64 r4, .int .u64 r5], .int .i64 r6, .int .i64 r7]) ∧ Below w.heap.size w w' := by
 have HG0 := Aside0.mk hG
 clear hG
 have hu30 := Tryd.underlying30
 have HB := Aside0.mk (Below.refl w.heap.size w)
 have H : ((lex_run.f a0 2 8800000059).bind fun t185 => (if (wrap64 (2 + t185)) < (a0.size : Int) then (if 0 ≤ (wrap64 (2 + t185)) then (lex_double.j0 k a0 (wrap64 (2 + t185)) ((bt a0 (wrap64 (2 + t185))) == 112)) else (none)) else (lex_double.j0 k a0 (wrap64 (2 + t185)) false))) = some (r1, r2, r3, r4, r5, r6, r7) := h
 clear h
 obtain ⟨t185, A20, H⟩ := Option.bind_eq_some_iff.mp H
 have A2 := Aside0.mk A20
 clear A20
 have HC3 := Aside0.mk H
 clear H
 go_enter Tryd.func38, Tryd.ntmps38
 go_upto_region 2 with (first | ((with_reducible refine gate_dst (N := 2) rfl ?_); refine box_event ?hg (N := 2) ?hd (cs := #[.int .i64 0, .int .i64 0, .string (⟨#[]⟩ : ByteArray), .int .i64 0, .int .u64 0]) (t := 30) ?hr ?_; (case hd => rfl); (case hg => rfl); (case hr => first | (go_simp; done) | (go_simp; rfl)); intro gb184 hg w4 hbox hb; have n0_ := Aside0.mk (below_step x49_17 hb); have n1_ := Aside0.mk (hbox); have n2_ := Aside0.mk ((by rw [hg]; exact (below_size x49_17) : w.heap.size ≤ gb184)); have n3_ := Aside0.mk ((by rw [hg]; exact (below_size x49_17) : w.heap.size ≤ gb184)); clear HB; have HB := n0_; have BK184 := n1_; have GW184 := n2_; have GE184 := n3_; clear n0_ n1_ n2_ n3_; clear hb hbox hg) | ((with_reducible refine gate_callee (f := 18) rfl ?_); refine goesL_ (some 9) rfl rfl Tryd.func18 (by kernel_rfl) rfl #[.string a0, .int .i64 2, .func (.func 59) #[] #[]] rfl x49_16 ?_; (with_reducible refine (lex_run.calls59 a0 2 t185 _ A2.out).mono ?_); rintro e w' ⟨rfl, ⟨nd, rfl⟩⟩; refine ⟨_, rfl, ?_⟩))
 (try simp only [Act.put, List.setIfInBounds_toArray, List.set_cons_zero, List.set_cons_succ])
 go_cut [20] (fun v20 wc => ∃ (kq : Nat) (x20_2 : Bool), v20 = .bool x20_2 ∧ Aside0 (lex_double.j0 kq a0 (wrap64 (2 + t185)) x20_2 = some (r1, r2, r3, r4, r5, r6, r7)) ∧ Aside0 (kq ≤ k) ∧ Aside0 (wc.heap[gb184]? = some (.cells #[.int .i64 0, .int .i64 0, .string (⟨#[]⟩ : ByteArray), .int .i64 0, .int .u64 0] 30 (0, 0))) ∧ Aside0 (Below w.heap.size w wc))
 case first =>
  have H := HC3.out
  clear HC3
  by_cases c5 : (wrap64 (2 + t185)) < (a0.size : Int)
  ·rw [if_pos c5] at H
   have c5b0 := decide_eq_true c5
   clear c5
   (first | rw [c5b0] | (simp only [i64_w, i32_w]; rw [c5b0]) | skip)
   obtain ⟨ji6, hji6⟩ : ∃ j_ : Int, (wrap64 (2 + t185)) = j_ := ⟨_, rfl⟩
   replace H : (if 0 ≤ (ji6) then (lex_double.j0 k a0 ji6 ((bt a0 (ji6)) == 112)) else (none)) = some (r1, r2, r3, r4, r5, r6, r7) := by first | (rw [hji6] at H; exact H) | (simp only [hji6] at H ⊢; exact H)
   (try rw [hji6] at c5b0)
   have hji6w : (IntKind.i64.wrap (2 + t185)) = ji6 := (i64_w _).trans hji6
   by_cases c7 : 0 ≤ (ji6)
   ·rw [if_pos c7] at H
    have c7b0 := decide_eq_true c7
    clear c7
    have H' := Aside0.mk H
    clear H
    have p8 : 0 ≤ ((ji6) : Int) := of_decide_eq_true x49_31
    have q8 : (ji6) < (a0.size : Int) := of_decide_eq_true x49_31
    have hx8 := bt_at a0 (ji6)
    replace p8 := eq_true p8
    replace q8 := eq_true q8
    go_wp2
    first
    | (go_meet; case rel => exact ⟨_, (((bt a0 (ji6)) == 112)), x49_28, H', ⟨x49_33⟩, ⟨x49_22⟩, ⟨x49_12⟩⟩)
    | (go_meet; case rel => simp only [hji6]; exact ⟨_, (((bt a0 (ji6)) == 112)), x49_28, H', ⟨x49_33⟩, ⟨x49_22⟩, ⟨x49_12⟩⟩)
    | ((try subst hji12); (try subst hji20); (try subst hji29); (try subst hji6); go_meet; case rel => exact ⟨_, (((bt a0 ((wrap64 (2 + t185)))) == 112)), x49_28, H', ⟨x49_33⟩, ⟨x49_22⟩, ⟨x49_12⟩⟩)
   ·rw [if_neg c7] at H
    exact absurd H (by simp)
  ·rw [if_neg c5] at H
   have c5b0 := decide_eq_false c5
   clear c5
   (first | rw [c5b0] | (simp only [i64_w, i32_w]; rw [c5b0]) | skip)
   have H' := Aside0.mk H
   clear H
   go_wp2
   first
   | (go_meet; case rel => exact ⟨_, (false), x49_32, H', ⟨x49_33⟩, ⟨x49_22⟩, ⟨x49_12⟩⟩)
   | (go_meet; case rel => simp only [hji6]; exact ⟨_, (false), x49_32, H', ⟨x49_33⟩, ⟨x49_22⟩, ⟨x49_12⟩⟩)
   | ((try subst hji12); (try subst hji20); (try subst hji29); (try subst hji6); go_meet; case rel => exact ⟨_, (false), x49_32, H', ⟨x49_33⟩, ⟨x49_22⟩, ⟨x49_12⟩⟩)
 case rest =>
  clear HC3
  obtain ⟨kq, x20_2, rfl, HA, HJ2, BK184, HB⟩ := hcut
  cases kq with
  | zero => exact absurd HA.out (by simp [lex_double.j0])
  | succ kj2 =>
   have H := HA.out
   clear HA
   simp only [lex_double.j0] at H
   by_cases c9 : x20_2 = true
   ·subst c9
    rw [if_pos rfl] at H
    have HC10 := Aside0.mk H
    clear H
    go_upto_region 4 with (fail)
    go_cut [38] (fun v38 wc => ∃ (kq : Nat) (x38_9 : Bool), v38 = .bool x38_9 ∧ Aside0 (lex_double.j1 kq a0 (wrap64 ((wrap64 (2 + t185)) + 1)) x38_9 = some (r1, r2, r3, r4, r5, r6, r7)) ∧ Aside0 (kq ≤ kj2) ∧ Aside0 (wc.heap[gb184]? = some (.cells #[.int .i64 0, .int .i64 0, .string (⟨#[]⟩ : ByteArray), .int .i64 0, .int .u64 0] 30 (0, 0))) ∧ Aside0 (Below w.heap.size w wc))
    case first =>
     have H := HC10.out
     clear HC10
     by_cases c11 : (wrap64 ((wrap64 (2 + t185)) + 1)) < (a0.size : Int)
     ·rw [if_pos c11] at H
      have c11b0 := decide_eq_true c11
      clear c11
      (first | rw [c11b0] | (simp only [i64_w, i32_w]; rw [c11b0]) | skip)
      obtain ⟨ji12, hji12⟩ : ∃ j_ : Int, (wrap64 ((wrap64 (2 + t185)) + 1)) = j_ := ⟨_, rfl⟩
      replace H : (if 0 ≤ (ji12) then (if (bt a0 (ji12)) = 43 then (lex_double.j1 kj2 a0 ji12 true) else (lex_double.j1 kj2 a0 ji12 ((bt a0 (ji12)) == 45))) else (none)) = some (r1, r2, r3, r4, r5, r6, r7) := by first | (rw [hji12] at H; exact H) | (simp only [hji12] at H ⊢; exact H)
      (try rw [hji12] at c11b0)
      have hji12w : (IntKind.i64.wrap ((wrap64 (2 + t185)) + 1)) = ji12 := (i64_w _).trans hji12
      by_cases c13 : 0 ≤ (ji12)
      ·rw [if_pos c13] at H
       have c13b0 := decide_eq_true c13
       clear c13
       by_cases c15 : (bt a0 (ji12)) = 43
       ·rw [if_pos c15] at H
        have c15b0 := beq_iff_eq.mpr c15
        have c15b1 := bne_eq_false_iff_eq.mpr c15
        clear c15
        have H' := Aside0.mk H
        clear H
        have p14 : 0 ≤ ((ji12) : Int) := of_decide_eq_true x49_31
        have q14 : (ji12) < (a0.size : Int) := of_decide_eq_true x49_31
        have hx14 := bt_at a0 (ji12)
        replace p14 := eq_true p14
        replace q14 := eq_true q14
        go_wp2
        first
        | (go_meet; case rel => exact ⟨_, (true), x49_32, H', ⟨x49_30⟩, ⟨x49_22⟩, ⟨x49_12⟩⟩)
        | (go_meet; case rel => simp only [hji12, hji6]; exact ⟨_, (true), x49_32, H', ⟨x49_30⟩, ⟨x49_22⟩, ⟨x49_12⟩⟩)
        | ((try subst hji12); (try subst hji20); (try subst hji29); (try subst hji6); go_meet; case rel => exact ⟨_, (true), x49_32, H', ⟨x49_30⟩, ⟨x49_22⟩, ⟨x49_12⟩⟩)
       ·rw [if_neg c15] at H
        have c15b0 := beq_eq_false_iff_ne.mpr c15
        have c15b1 := bne_iff_ne.mpr c15
        have H' := Aside0.mk H
        clear H
        have p14 : 0 ≤ ((ji12) : Int) := of_decide_eq_true x49_31
        have q14 : (ji12) < (a0.size : Int) := of_decide_eq_true x49_31
        have hx14 := bt_at a0 (ji12)
        replace p14 := eq_true p14
        replace q14 := eq_true q14
        have p16 : 0 ≤ ((ji12) : Int) := of_decide_eq_true x49_31
        have q16 : (ji12) < (a0.size : Int) := of_decide_eq_true x49_31
        have hx16 := bt_at a0 (ji12)
        replace p16 := eq_true p16
        replace q16 := eq_true q16
        go_wp2
        first
        | (go_meet; case rel => exact ⟨_, (((bt a0 (ji12)) == 45)), x49_26, H', ⟨x49_30⟩, ⟨x49_22⟩, ⟨x49_12⟩⟩)
        | (go_meet; case rel => simp only [hji12, hji6]; exact ⟨_, (((bt a0 (ji12)) == 45)), x49_26, H', ⟨x49_30⟩, ⟨x49_22⟩, ⟨x49_12⟩⟩)
        | ((try subst hji12); (try subst hji20); (try subst hji29); (try subst hji6); go_meet; case rel => exact ⟨_, (((bt a0 ((wrap64 ((wrap64 (2 + t185)) + 1)))) == 45)), x49_26, H', ⟨x49_30⟩, ⟨x49_22⟩, ⟨x49_12⟩⟩)
      ·rw [if_neg c13] at H
       exact absurd H (by simp)
     ·rw [if_neg c11] at H
      have c11b0 := decide_eq_false c11
      clear c11
      (first | rw [c11b0] | (simp only [i64_w, i32_w]; rw [c11b0]) | skip)
      have H' := Aside0.mk H
      clear H
      go_wp2
      first
      | (go_meet; case rel => exact ⟨_, (false), x49_32, H', ⟨x49_30⟩, ⟨x49_22⟩, ⟨x49_12⟩⟩)
      | (go_meet; case rel => simp only [hji12, hji6]; exact ⟨_, (false), x49_32, H', ⟨x49_30⟩, ⟨x49_22⟩, ⟨x49_12⟩⟩)
      | ((try subst hji12); (try subst hji20); (try subst hji29); (try subst hji6); go_meet; case rel => exact ⟨_, (false), x49_32, H', ⟨x49_30⟩, ⟨x49_22⟩, ⟨x49_12⟩⟩)
    case rest =>
     clear HC10
     obtain ⟨kq, x38_9, rfl, HA, HJ9, BK184, HB⟩ := hcut
     cases kq with
     | zero => exact absurd HA.out (by simp [lex_double.j1])
     | succ kj9 =>
      have H := HA.out
      clear HA
      simp only [lex_double.j1] at H
      have HC17 := Aside0.mk H
      clear H
      go_upto_if 38 with (fail)
      go_cut [5] (fun v5 wc => ∃ (kq : Nat) (x5_16 : Int), v5 = .int .i64 x5_16 ∧ Aside0 (lex_double.j2 kq a0 x5_16 = some (r1, r2, r3, r4, r5, r6, r7)) ∧ Aside0 (kq ≤ kj9) ∧ Aside0 (wc.heap[gb184]? = some (.cells #[.int .i64 0, .int .i64 0, .string (⟨#[]⟩ : ByteArray), .int .i64 0, .int .u64 0] 30 (0, 0))) ∧ Aside0 (Below w.heap.size w wc))
      case first =>
       have H := HC17.out
       clear HC17
       by_cases c18 : x38_9 = true
       ·subst c18
        rw [if_pos rfl] at H
        have H' := Aside0.mk H
        clear H
        go_wp2
        first
        | (go_meet; case rel => exact ⟨_, (wrap64 ((wrap64 ((wrap64 (2 + t185)) + 1)) + 1)), x49_32, H', ⟨x49_29⟩, ⟨x49_22⟩, ⟨x49_12⟩⟩)
        | (go_meet; case rel => simp only [hji12, hji6]; exact ⟨_, (wrap64 ((wrap64 ((wrap64 (2 + t185)) + 1)) + 1)), x49_32, H', ⟨x49_29⟩, ⟨x49_22⟩, ⟨x49_12⟩⟩)
        | ((try subst hji12); (try subst hji20); (try subst hji29); (try subst hji6); go_meet; case rel => exact ⟨_, (wrap64 ((wrap64 ((wrap64 (2 + t185)) + 1)) + 1)), x49_32, H', ⟨x49_29⟩, ⟨x49_22⟩, ⟨x49_12⟩⟩)
       ·replace c18 := Bool.eq_false_iff.mpr c18
        subst c18
        rw [if_neg (show ¬ (false = true) by decide)] at H
        have H' := Aside0.mk H
        clear H
        go_wp2
        first
        | (go_meet; case rel => exact ⟨_, ((wrap64 ((wrap64 (2 + t185)) + 1))), x49_32, H', ⟨x49_29⟩, ⟨x49_22⟩, ⟨x49_12⟩⟩)
        | (go_meet; case rel => simp only [hji12, hji6]; exact ⟨_, ((wrap64 ((wrap64 (2 + t185)) + 1))), x49_32, H', ⟨x49_29⟩, ⟨x49_22⟩, ⟨x49_12⟩⟩)
        | ((try subst hji12); (try subst hji20); (try subst hji29); (try subst hji6); go_meet; case rel => exact ⟨_, ((wrap64 ((wrap64 (2 + t185)) + 1))), x49_32, H', ⟨x49_29⟩, ⟨x49_22⟩, ⟨x49_12⟩⟩)
      case rest =>
       clear HC17
       obtain ⟨kq, x5_16, rfl, HA, HJ16, BK184, HB⟩ := hcut
       cases kq with
       | zero => exact absurd HA.out (by simp [lex_double.j2])
       | succ kj16 =>
        have H := HA.out
        clear HA
        simp only [lex_double.j2] at H
        obtain ⟨t186, A190, H⟩ := Option.bind_eq_some_iff.mp H
        have A19 := Aside0.mk A190
        clear A190
        obtain ⟨ji20, hji20⟩ : ∃ j_ : Int, (wrap64 (x5_16 + t186)) = j_ := ⟨_, rfl⟩
        replace H : (if 0 ≤ (ji20) then (if (ji20) ≤ (a0.size : Int) then ((numtext_ParseFloat.f kj16 (a0.extract 0 ((ji20) : Int).toNat)).bind fun bt187 => (if bt187.2 = 0 then (some (5, 0, (⟨#[]⟩ : ByteArray), 0, bt187.1, ji20, 0)) else (some (0, 0, (⟨#[]⟩ : ByteArray), 0, 0, 0, 62)))) else (none)) else (none)) = some (r1, r2, r3, r4, r5, r6, r7) := by first | (rw [hji20] at H; exact H) | (simp only [hji20] at H ⊢; exact H)
        (try rw [hji20] at A19)
        have hji20w : (IntKind.i64.wrap (x5_16 + t186)) = ji20 := (i64_w _).trans hji20
        by_cases c21 : 0 ≤ (ji20)
        ·rw [if_pos c21] at H
         have c21b0 := eq_true c21
         have c21b1 := decide_eq_true c21
         clear c21
         by_cases c22 : (ji20) ≤ (a0.size : Int)
         ·rw [if_pos c22] at H
          have c22b0 := eq_true c22
          have c22b1 := decide_eq_true c22
          clear c22
          replace H := Option.bind_eq_some_iff.mp H
          obtain ⟨⟨t187, t188⟩, A230, H⟩ := H
          replace H : (if t188 = 0 then (some (5, 0, (⟨#[]⟩ : ByteArray), 0, t187, ji20, 0)) else (some (0, 0, (⟨#[]⟩ : ByteArray), 0, 0, 0, 62))) = some (r1, r2, r3, r4, r5, r6, r7) := H
          have A23 := Aside0.mk A230
          clear A230
          by_cases c24 : t188 = 0
          ·rw [if_pos c24] at H
           have c24b0 := beq_iff_eq.mpr c24
           have c24b1 := bne_eq_false_iff_eq.mpr c24
           clear c24
           simp only [Option.some.injEq, Prod.mk.injEq] at H
           obtain ⟨rfl, rfl, rfl, rfl, rfl, rfl, rfl⟩ := H
           go_wp2_with (first | ((with_reducible refine gate_callee (f := 18) rfl ?_); refine goesL_ (some 44) rfl rfl Tryd.func18 (by kernel_rfl) rfl #[.string a0, .int .i64 x5_16, .func (.func 39) #[] #[]] rfl x49_16 ?_; (with_reducible refine (lex_run.calls39 a0 x5_16 t186 _ A19.out).mono ?_); rintro e w' ⟨rfl, ⟨nd, rfl⟩⟩; refine ⟨_, rfl, ?_⟩; (try (rw [drewN_self wc]; generalize hq_ : World.drewN wc _ = wc; have n0_ : Aside0 (wc.heap[gb184]? = some (.cells #[.int .i64 0, .int .i64 0, .string (⟨#[]⟩ : ByteArray), .int .i64 0, .int .u64 0] 30 (0, 0))) := ⟨x49_18⟩; have n1_ : Aside0 (Below w.heap.size w wc) := ⟨x49_5⟩; clear BK184 HB hq_; have BK184 := n0_; have HB := n1_; clear n0_ n1_))) | ((with_reducible refine gate_callee (f := 14) rfl ?_); refine goesL_ (some 50) rfl rfl Tryd.func14 (by kernel_rfl) rfl #[.string (a0.extract 0 ((ji20) : Int).toNat)] rfl x49_10 ?_; (with_reducible refine (numtext_ParseFloat.calls (hG := x49_2) kj16 (a0.extract 0 ((ji20) : Int).toNat) t187 t188 _ A23.out).mono ?_); rintro e w25 ⟨rfl, hb⟩; refine ⟨_, rfl, ?_⟩; have n0_ := Aside0.mk (blk_below (g := gb184) (o := .cells #[.int .i64 0, .int .i64 0, .string (⟨#[]⟩ : ByteArray), .int .i64 0, .int .u64 0] 30 (0, 0)) x49_22 hb); have n1_ := Aside0.mk (below_step x49_12 hb); clear BK184; clear HB; have BK184 := n0_; have HB := n1_; clear n0_ n1_; have hcz26_0 : w25.cell? ⟨gb184, 0, none⟩ = some (.int .i64 0) := (blk_cell BK184.out 0).trans rfl; have hcz26_1 : w25.cell? ⟨gb184, 1, none⟩ = some (.int .i64 0) := (blk_cell BK184.out 1).trans rfl; have hcz26_2 : w25.cell? ⟨gb184, 2, none⟩ = some (.string (⟨#[]⟩ : ByteArray)) := (blk_cell BK184.out 2).trans rfl; have hcz26_3 : w25.cell? ⟨gb184, 3, none⟩ = some (.int .i64 0) := (blk_cell BK184.out 3).trans rfl; have hcz26_4 : w25.cell? ⟨gb184, 4, none⟩ = some (.int .u64 0) := (blk_cell BK184.out 4).trans rfl; have hfz26_0 := blk_frozen BK184.out 0; have hfz26_1 := blk_frozen BK184.out 1; have hfz26_2 := blk_frozen BK184.out 2; have hfz26_3 := blk_frozen BK184.out 3; have hfz26_4 := blk_frozen BK184.out 4))
           refine bodyPost_ret (results_ctt rfl _ _ gb184 30 #[.int .i64 5, .int .i64 0, .string (⟨#[]⟩ : ByteArray), .int .i64 0, .int .u64 t187] (0, 0) _ rfl x49_0 Tryd.underlying30 rfl (by kernel_rfl)) rfl ?_
           exact ⟨x49_8, x49_12⟩
          ·rw [if_neg c24] at H
           have c24b0 := beq_eq_false_iff_ne.mpr c24
           have c24b1 := bne_iff_ne.mpr c24
           simp only [Option.some.injEq, Prod.mk.injEq] at H
           obtain ⟨rfl, rfl, rfl, rfl, rfl, rfl, rfl⟩ := H
           go_wp2_with (first | ((with_reducible refine gate_callee (f := 18) rfl ?_); refine goesL_ (some 44) rfl rfl Tryd.func18 (by kernel_rfl) rfl #[.string a0, .int .i64 x5_16, .func (.func 39) #[] #[]] rfl x49_16 ?_; (with_reducible refine (lex_run.calls39 a0 x5_16 t186 _ A19.out).mono ?_); rintro e w' ⟨rfl, ⟨nd, rfl⟩⟩; refine ⟨_, rfl, ?_⟩; (try (rw [drewN_self wc]; generalize hq_ : World.drewN wc _ = wc; have n0_ : Aside0 (wc.heap[gb184]? = some (.cells #[.int .i64 0, .int .i64 0, .string (⟨#[]⟩ : ByteArray), .int .i64 0, .int .u64 0] 30 (0, 0))) := ⟨x49_18⟩; have n1_ : Aside0 (Below w.heap.size w wc) := ⟨x49_5⟩; clear BK184 HB hq_; have BK184 := n0_; have HB := n1_; clear n0_ n1_))) | ((with_reducible refine gate_callee (f := 14) rfl ?_); refine goesL_ (some 50) rfl rfl Tryd.func14 (by kernel_rfl) rfl #[.string (a0.extract 0 ((ji20) : Int).toNat)] rfl x49_10 ?_; (with_reducible refine (numtext_ParseFloat.calls (hG := x49_2) kj16 (a0.extract 0 ((ji20) : Int).toNat) t187 t188 _ A23.out).mono ?_); rintro e w27 ⟨rfl, hb⟩; refine ⟨_, rfl, ?_⟩; have n0_ := Aside0.mk (blk_below (g := gb184) (o := .cells #[.int .i64 0, .int .i64 0, .string (⟨#[]⟩ : ByteArray), .int .i64 0, .int .u64 0] 30 (0, 0)) x49_22 hb); have n1_ := Aside0.mk (below_step x49_12 hb); clear BK184; clear HB; have BK184 := n0_; have HB := n1_; clear n0_ n1_; have hcz28_0 : w27.cell? ⟨gb184, 0, none⟩ = some (.int .i64 0) := (blk_cell BK184.out 0).trans rfl; have hcz28_1 : w27.cell? ⟨gb184, 1, none⟩ = some (.int .i64 0) := (blk_cell BK184.out 1).trans rfl; have hcz28_2 : w27.cell? ⟨gb184, 2, none⟩ = some (.string (⟨#[]⟩ : ByteArray)) := (blk_cell BK184.out 2).trans rfl; have hcz28_3 : w27.cell? ⟨gb184, 3, none⟩ = some (.int .i64 0) := (blk_cell BK184.out 3).trans rfl; have hcz28_4 : w27.cell? ⟨gb184, 4, none⟩ = some (.int .u64 0) := (blk_cell BK184.out 4).trans rfl; have hfz28_0 := blk_frozen BK184.out 0; have hfz28_1 := blk_frozen BK184.out 1; have hfz28_2 := blk_frozen BK184.out 2; have hfz28_3 := blk_frozen BK184.out 3; have hfz28_4 := blk_frozen BK184.out 4))
           refine bodyPost_ret (results_ctt rfl _ _ gb184 30 #[.int .i64 0, .int .i64 0, .string (⟨#[]⟩ : ByteArray), .int .i64 0, .int .u64 0] (0, 0) _ rfl x49_1 Tryd.underlying30 rfl (by kernel_rfl)) rfl ?_
           exact ⟨x49_8, x49_12⟩
         ·rw [if_neg c22] at H
          exact absurd H (by simp)
        ·rw [if_neg c21] at H
         exact absurd H (by simp)
   ·replace c9 := Bool.eq_false_iff.mpr c9
    subst c9
    rw [if_neg (show ¬ (false = true) by decide)] at H
    obtain ⟨ji29, hji29⟩ : ∃ j_ : Int, (wrap64 (2 + t185)) = j_ := ⟨_, rfl⟩
    replace H : (if 0 ≤ (ji29) then (if (ji29) ≤ (a0.size : Int) then ((numtext_ParseFloat.f kj2 (a0.extract 0 ((ji29) : Int).toNat)).bind fun bt189 => (if bt189.2 = 0 then (some (5, 0, (⟨#[]⟩ : ByteArray), 0, bt189.1, (ji29), 0)) else (some (0, 0, (⟨#[]⟩ : ByteArray), 0, 0, 0, 62)))) else (none)) else (none)) = some (r1, r2, r3, r4, r5, r6, r7) := by first | (rw [hji29] at H; exact H) | (simp only [hji29] at H ⊢; exact H)
    have hji29w : (IntKind.i64.wrap (2 + t185)) = ji29 := (i64_w _).trans hji29
    by_cases c30 : 0 ≤ (ji29)
    ·rw [if_pos c30] at H
     have c30b0 := eq_true c30
     have c30b1 := decide_eq_true c30
     clear c30
     by_cases c31 : (ji29) ≤ (a0.size : Int)
     ·rw [if_pos c31] at H
      have c31b0 := eq_true c31
      have c31b1 := decide_eq_true c31
      clear c31
      replace H := Option.bind_eq_some_iff.mp H
      obtain ⟨⟨t189, t190⟩, A320, H⟩ := H
      replace H : (if t190 = 0 then (some (5, 0, (⟨#[]⟩ : ByteArray), 0, t189, (ji29), 0)) else (some (0, 0, (⟨#[]⟩ : ByteArray), 0, 0, 0, 62))) = some (r1, r2, r3, r4, r5, r6, r7) := H
      have A32 := Aside0.mk A320
      clear A320
      by_cases c33 : t190 = 0
      ·rw [if_pos c33] at H
       have c33b0 := beq_iff_eq.mpr c33
       have c33b1 := bne_eq_false_iff_eq.mpr c33
       clear c33
       simp only [Option.some.injEq, Prod.mk.injEq] at H
       obtain ⟨rfl, rfl, rfl, rfl, rfl, rfl, rfl⟩ := H
       go_wp2_with (first | ((with_reducible refine gate_callee (f := 14) rfl ?_); refine goesL_ (some 50) rfl rfl Tryd.func14 (by kernel_rfl) rfl #[.string (a0.extract 0 ((ji29) : Int).toNat)] rfl x49_11 ?_; (with_reducible refine (numtext_ParseFloat.calls (hG := x49_2) kj2 (a0.extract 0 ((ji29) : Int).toNat) t189 t190 _ A32.out).mono ?_); rintro e w34 ⟨rfl, hb⟩; refine ⟨_, rfl, ?_⟩; have n0_ := Aside0.mk (blk_below (g := gb184) (o := .cells #[.int .i64 0, .int .i64 0, .string (⟨#[]⟩ : ByteArray), .int .i64 0, .int .u64 0] 30 (0, 0)) x49_22 hb); have n1_ := Aside0.mk (below_step x49_12 hb); clear BK184; clear HB; have BK184 := n0_; have HB := n1_; clear n0_ n1_; have hcz35_0 : w34.cell? ⟨gb184, 0, none⟩ = some (.int .i64 0) := (blk_cell BK184.out 0).trans rfl; have hcz35_1 : w34.cell? ⟨gb184, 1, none⟩ = some (.int .i64 0) := (blk_cell BK184.out 1).trans rfl; have hcz35_2 : w34.cell? ⟨gb184, 2, none⟩ = some (.string (⟨#[]⟩ : ByteArray)) := (blk_cell BK184.out 2).trans rfl; have hcz35_3 : w34.cell? ⟨gb184, 3, none⟩ = some (.int .i64 0) := (blk_cell BK184.out 3).trans rfl; have hcz35_4 : w34.cell? ⟨gb184, 4, none⟩ = some (.int .u64 0) := (blk_cell BK184.out 4).trans rfl; have hfz35_0 := blk_frozen BK184.out 0; have hfz35_1 := blk_frozen BK184.out 1; have hfz35_2 := blk_frozen BK184.out 2; have hfz35_3 := blk_frozen BK184.out 3; have hfz35_4 := blk_frozen BK184.out 4))
       refine bodyPost_ret (results_ctt rfl _ _ gb184 30 #[.int .i64 5, .int .i64 0, .string (⟨#[]⟩ : ByteArray), .int .i64 0, .int .u64 t189] (0, 0) _ rfl x49_0 Tryd.underlying30 rfl (by kernel_rfl)) rfl ?_
       exact ⟨x49_9, x49_12⟩
      ·rw [if_neg c33] at H
       have c33b0 := beq_eq_false_iff_ne.mpr c33
       have c33b1 := bne_iff_ne.mpr c33
       simp only [Option.some.injEq, Prod.mk.injEq] at H
       obtain ⟨rfl, rfl, rfl, rfl, rfl, rfl, rfl⟩ := H
       go_wp2_with (first | ((with_reducible refine gate_callee (f := 14) rfl ?_); refine goesL_ (some 50) rfl rfl Tryd.func14 (by kernel_rfl) rfl #[.string (a0.extract 0 ((ji29) : Int).toNat)] rfl x49_11 ?_; (with_reducible refine (numtext_ParseFloat.calls (hG := x49_2) kj2 (a0.extract 0 ((ji29) : Int).toNat) t189 t190 _ A32.out).mono ?_); rintro e w36 ⟨rfl, hb⟩; refine ⟨_, rfl, ?_⟩; have n0_ := Aside0.mk (blk_below (g := gb184) (o := .cells #[.int .i64 0, .int .i64 0, .string (⟨#[]⟩ : ByteArray), .int .i64 0, .int .u64 0] 30 (0, 0)) x49_22 hb); have n1_ := Aside0.mk (below_step x49_12 hb); clear BK184; clear HB; have BK184 := n0_; have HB := n1_; clear n0_ n1_; have hcz37_0 : w36.cell? ⟨gb184, 0, none⟩ = some (.int .i64 0) := (blk_cell BK184.out 0).trans rfl; have hcz37_1 : w36.cell? ⟨gb184, 1, none⟩ = some (.int .i64 0) := (blk_cell BK184.out 1).trans rfl; have hcz37_2 : w36.cell? ⟨gb184, 2, none⟩ = some (.string (⟨#[]⟩ : ByteArray)) := (blk_cell BK184.out 2).trans rfl; have hcz37_3 : w36.cell? ⟨gb184, 3, none⟩ = some (.int .i64 0) := (blk_cell BK184.out 3).trans rfl; have hcz37_4 : w36.cell? ⟨gb184, 4, none⟩ = some (.int .u64 0) := (blk_cell BK184.out 4).trans rfl; have hfz37_0 := blk_frozen BK184.out 0; have hfz37_1 := blk_frozen BK184.out 1; have hfz37_2 := blk_frozen BK184.out 2; have hfz37_3 := blk_frozen BK184.out 3; have hfz37_4 := blk_frozen BK184.out 4))
       refine bodyPost_ret (results_ctt rfl _ _ gb184 30 #[.int .i64 0, .int .i64 0, .string (⟨#[]⟩ : ByteArray), .int .i64 0, .int .u64 0] (0, 0) _ rfl x49_1 Tryd.underlying30 rfl (by kernel_rfl)) rfl ?_
       exact ⟨x49_9, x49_12⟩
     ·rw [if_neg c31] at H
      exact absurd H (by simp)
    ·rw [if_neg c30] at H
     exact absurd H (by simp)
def lex_whole.f (a0 : ByteArray) : Option (Int × Int × ByteArray × Int × Int × Int × Int) := (lex_run.f a0 0 8800000039).bind fun t192 => (if 0 ≤ t192 then (if t192 ≤ (a0.size : Int) then ((numtext_ParseInt.f (a0.extract 0 (t192 : Int).toNat)).bind fun bt193 => (if bt193.2 = 0 then (some (4, 0, (⟨#[]⟩ : ByteArray), bt193.1, 0, t192, 0)) else (some (0, 0, (⟨#[]⟩ : ByteArray), 0, 0, 0, 62)))) else (none)) else (none))
set_option maxHeartbeats 8000000 in
set_option maxRecDepth 100000 in
theorem lex_whole.calls (a0 : ByteArray) (r1 : Int) (r2 : Int) (r3 : ByteArray) (r4 : Int) (r5 : Int) (r6 : Int) (r7 : Int) (w : World) (hG : Glob w) (h : lex_whole.f a0 = some (r1, r2, r3, r4, r5, r6, r7)) :
  Calls Tryd.prog 40 #[.string a0] w fun e w' => e = .returned (.tuple #[.agg #[.int .i64 r1, .int .i64 r2, .string r3, .int .i64 r4, .int .u64 r5], .int .i64 r6, .int .i64 r7]) ∧ Below w.heap.size w w' := by
 have HG0 := Aside0.mk hG
 clear hG
 have hu30 := Tryd.underlying30
 have HB := Aside0.mk (Below.refl w.heap.size w)
 have H : ((lex_run.f a0 0 8800000039).bind fun t192 => (if 0 ≤ t192 then (if t192 ≤ (a0.size : Int) then ((numtext_ParseInt.f (a0.extract 0 (t192 : Int).toNat)).bind fun bt193 => (if bt193.2 = 0 then (some (4, 0, (⟨#[]⟩ : ByteArray), bt193.1, 0, t192, 0)) else (some (0, 0, (⟨#[]⟩ : ByteArray), 0, 0, 0, 62)))) else (none)) else (none))) = some (r1, r2, r3, r4, r5, r6, r7) := h
 clear h
 obtain ⟨t192, A20, H⟩ := Option.bind_eq_some_iff.mp H
 have A2 := Aside0.mk A20
 clear A20
 by_cases c3 : 0 ≤ t192
 ·rw [if_pos c3] at H
  have c3b0 := eq_true c3
  have c3b1 := decide_eq_true c3
  clear c3
  by_cases c4 : t192 ≤ (a0.size : Int)
  ·rw [if_pos c4] at H
   have c4b0 := eq_true c4
   have c4b1 := decide_eq_true c4
   clear c4
   replace H := Option.bind_eq_some_iff.mp H
   obtain ⟨⟨t193, t194⟩, A50, H⟩ := H
   replace H : (if t194 = 0 then (some (4, 0, (⟨#[]⟩ : ByteArray), t193, 0, t192, 0)) else (some (0, 0, (⟨#[]⟩ : ByteArray), 0, 0, 0, 62))) = some (r1, r2, r3, r4, r5, r6, r7) := H
   have A5 := Aside0.mk A50
   clear A50
   by_cases c6 : t194 = 0
   ·rw [if_pos c6] at H
    have c6b0 := beq_iff_eq.mpr c6
    have c6b1 := bne_eq_false_iff_eq.mpr c6
    clear c6
    simp only [Option.some.injEq, Prod.mk.injEq] at H
    obtain ⟨rfl, rfl, rfl, rfl, rfl, rfl, rfl⟩ := H
    go_enter Tryd.func40, Tryd.ntmps40
    go_wp2_with (first | ((with_reducible refine gate_dst (N := 2) rfl ?_); refine box_event ?hg (N := 2) ?hd (cs := #[.int .i64 0, .int .i64 0, .string (⟨#[]⟩ : ByteArray), .int .i64 0, .int .u64 0]) (t := 30) ?hr ?_; (case hd => rfl); (case hg => rfl); (case hr => first | (go_simp; done) | (go_simp; rfl)); intro gb191 hg w7 hbox hb; have n0_ := Aside0.mk (below_step x49_17 hb); have n1_ := Aside0.mk (hbox); have n2_ := Aside0.mk ((by rw [hg]; exact (below_size x49_17) : w.heap.size ≤ gb191)); have n3_ := Aside0.mk ((by rw [hg]; exact (below_size x49_17) : w.heap.size ≤ gb191)); clear HB; have HB := n0_; have BK191 := n1_; have GW191 := n2_; have GE191 := n3_; clear n0_ n1_ n2_ n3_; clear hb hbox hg) | ((with_reducible refine gate_callee (f := 18) rfl ?_); refine goesL_ (some 9) rfl rfl Tryd.func18 (by kernel_rfl) rfl #[.string a0, .int .i64 0, .func (.func 39) #[] #[]] rfl x49_16 ?_; (with_reducible refine (lex_run.calls39 a0 0 t192 _ A2.out).mono ?_); rintro e w' ⟨rfl, ⟨nd, rfl⟩⟩; refine ⟨_, rfl, ?_⟩; (try (rw [drewN_self w7]; generalize hq_ : World.drewN w7 _ = w7; have n0_ : Aside0 (w7.heap[gb191]? = some (.cells #[.int .i64 0, .int .i64 0, .string (⟨#[]⟩ : ByteArray), .int .i64 0, .int .u64 0] 30 (0, 0))) := ⟨x49_19⟩; have n1_ : Aside0 (Below w.heap.size w w7) := ⟨x49_6⟩; clear BK191 HB hq_; have BK191 := n0_; have HB := n1_; clear n0_ n1_))) | ((with_reducible refine gate_callee (f := 61) rfl ?_); refine goesL_ (some 14) rfl rfl Tryd.func61 (by kernel_rfl) rfl #[.string (a0.extract 0 (t192 : Int).toNat)] rfl x49_16 ?_; (with_reducible refine (numtext_ParseInt.calls (hG := x49_3) (a0.extract 0 (t192 : Int).toNat) t193 t194 _ A5.out).mono ?_); rintro e w8 ⟨rfl, hb⟩; refine ⟨_, rfl, ?_⟩; have n0_ := Aside0.mk (blk_below (g := gb191) (o := .cells #[.int .i64 0, .int .i64 0, .string (⟨#[]⟩ : ByteArray), .int .i64 0, .int .u64 0] 30 (0, 0)) x49_23 hb); have n1_ := Aside0.mk (below_step x49_13 hb); clear BK191; clear HB; have BK191 := n0_; have HB := n1_; clear n0_ n1_; have hcz9_0 : w8.cell? ⟨gb191, 0, none⟩ = some (.int .i64 0) := (blk_cell BK191.out 0).trans rfl; have hcz9_1 : w8.cell? ⟨gb191, 1, none⟩ = some (.int .i64 0) := (blk_cell BK191.out 1).trans rfl; have hcz9_2 : w8.cell? ⟨gb191, 2, none⟩ = some (.string (⟨#[]⟩ : ByteArray)) := (blk_cell BK191.out 2).trans rfl; have hcz9_3 : w8.cell? ⟨gb191, 3, none⟩ = some (.int .i64 0) := (blk_cell BK191.out 3).trans rfl; have hcz9_4 : w8.cell? ⟨gb191, 4, none⟩ = some (.int .u64 0) := (blk_cell BK191.out 4).trans rfl; have hfz9_0 := blk_frozen BK191.out 0; have hfz9_1 := blk_frozen BK191.out 1; have hfz9_2 := blk_frozen BK191.out 2; have hfz9_3 := blk_frozen BK191.out 3; have hfz9_4 := blk_frozen BK191.out 4))
    refine bodyPost_ret (results_ctt rfl _ _ gb191 30 #[.int .i64 4, .int .i64 0, .string (⟨#[]⟩ : ByteArray), .int .i64 t193, .int .u64 0] (0, 0) _ rfl (by (with_reducible repeat first | apply blk_drewN | apply blk_drew | apply blk_alloc); refine blk_put (cs := #[.int .i64 4, .int .i64 0, .string (⟨#[]⟩ : ByteArray), .int .i64 t193, .int .u64 0]) ?_ 4 _ rfl; (with_reducible repeat first | apply blk_drewN | apply blk_drew | apply blk_alloc); refine blk_put (cs := #[.int .i64 4, .int .i64 0, .string (⟨#[]⟩ : ByteArray), .int .i64 0, .int .u64 0]) ?_ 3 _ rfl; (with_reducible repeat first | apply blk_drewN | apply blk_drew | apply blk_alloc); refine blk_put (cs := #[.int .i64 4, .int .i64 0, .string (⟨#[]⟩ : ByteArray), .int .i64 0, .int .u64 0]) ?_ 2 _ rfl; (with_reducible repeat first | apply blk_drewN | apply blk_drew | apply blk_alloc); refine blk_put (cs := #[.int .i64 4, .int .i64 0, .string (⟨#[]⟩ : ByteArray), .int .i64 0, .int .u64 0]) ?_ 1 _ rfl; (with_reducible repeat first | apply blk_drewN | apply blk_drew | apply blk_alloc); refine blk_put (cs := #[.int .i64 0, .int .i64 0, .string (⟨#[]⟩ : ByteArray), .int .i64 0, .int .u64 0]) ?_ 0 _ rfl; (with_reducible repeat first | apply blk_drewN | apply blk_drew | apply blk_alloc); exact BK191.out) Tryd.underlying30 rfl (by kernel_rfl)) rfl ?_
    exact ⟨x49_27, x49_13⟩
   ·rw [if_neg c6] at H
    have c6b0 := beq_eq_false_iff_ne.mpr c6
    have c6b1 := bne_iff_ne.mpr c6
    simp only [Option.some.injEq, Prod.mk.injEq] at H
    obtain ⟨rfl, rfl, rfl, rfl, rfl, rfl, rfl⟩ := H
    go_enter Tryd.func40, Tryd.ntmps40
    go_wp2_with (first | ((with_reducible refine gate_dst (N := 2) rfl ?_); refine box_event ?hg (N := 2) ?hd (cs := #[.int .i64 0, .int .i64 0, .string (⟨#[]⟩ : ByteArray), .int .i64 0, .int .u64 0]) (t := 30) ?hr ?_; (case hd => rfl); (case hg => rfl); (case hr => first | (go_simp; done) | (go_simp; rfl)); intro gb191 hg w10 hbox hb; have n0_ := Aside0.mk (below_step x49_17 hb); have n1_ := Aside0.mk (hbox); have n2_ := Aside0.mk ((by rw [hg]; exact (below_size x49_17) : w.heap.size ≤ gb191)); have n3_ := Aside0.mk ((by rw [hg]; exact (below_size x49_17) : w.heap.size ≤ gb191)); clear HB; have HB := n0_; have BK191 := n1_; have GW191 := n2_; have GE191 := n3_; clear n0_ n1_ n2_ n3_; clear hb hbox hg) | ((with_reducible refine gate_callee (f := 18) rfl ?_); refine goesL_ (some 9) rfl rfl Tryd.func18 (by kernel_rfl) rfl #[.string a0, .int .i64 0, .func (.func 39) #[] #[]] rfl x49_16 ?_; (with_reducible refine (lex_run.calls39 a0 0 t192 _ A2.out).mono ?_); rintro e w' ⟨rfl, ⟨nd, rfl⟩⟩; refine ⟨_, rfl, ?_⟩; (try (rw [drewN_self w10]; generalize hq_ : World.drewN w10 _ = w10; have n0_ : Aside0 (w10.heap[gb191]? = some (.cells #[.int .i64 0, .int .i64 0, .string (⟨#[]⟩ : ByteArray), .int .i64 0, .int .u64 0] 30 (0, 0))) := ⟨x49_19⟩; have n1_ : Aside0 (Below w.heap.size w w10) := ⟨x49_6⟩; clear BK191 HB hq_; have BK191 := n0_; have HB := n1_; clear n0_ n1_))) | ((with_reducible refine gate_callee (f := 61) rfl ?_); refine goesL_ (some 14) rfl rfl Tryd.func61 (by kernel_rfl) rfl #[.string (a0.extract 0 (t192 : Int).toNat)] rfl x49_16 ?_; (with_reducible refine (numtext_ParseInt.calls (hG := x49_3) (a0.extract 0 (t192 : Int).toNat) t193 t194 _ A5.out).mono ?_); rintro e w11 ⟨rfl, hb⟩; refine ⟨_, rfl, ?_⟩; have n0_ := Aside0.mk (blk_below (g := gb191) (o := .cells #[.int .i64 0, .int .i64 0, .string (⟨#[]⟩ : ByteArray), .int .i64 0, .int .u64 0] 30 (0, 0)) x49_23 hb); have n1_ := Aside0.mk (below_step x49_13 hb); clear BK191; clear HB; have BK191 := n0_; have HB := n1_; clear n0_ n1_; have hcz12_0 : w11.cell? ⟨gb191, 0, none⟩ = some (.int .i64 0) := (blk_cell BK191.out 0).trans rfl; have hcz12_1 : w11.cell? ⟨gb191, 1, none⟩ = some (.int .i64 0) := (blk_cell BK191.out 1).trans rfl; have hcz12_2 : w11.cell? ⟨gb191, 2, none⟩ = some (.string (⟨#[]⟩ : ByteArray)) := (blk_cell BK191.out 2).trans rfl; have hcz12_3 : w11.cell? ⟨gb191, 3, none⟩ = some (.int .i64 0) := (blk_cell BK191.out 3).trans rfl; have hcz12_4 : w11.cell? ⟨gb191, 4, none⟩ = some (.int .u64 0) := (blk_cell BK191.out 4).trans rfl; have hfz12_0 := blk_frozen BK191.out 0; have hfz12_1 := blk_frozen BK191.out 1; have hfz12_2 := blk_frozen BK191.out 2; have hfz12_3 := blk_frozen BK191.out 3; have hfz12_4 := blk_frozen BK191.out 4))
    refine bodyPost_ret (results_ctt rfl _ _ gb191 30 #[.int .i64 0, .int .i64 0, .string (⟨#[]⟩ : ByteArray), .int .i64 0, .int .u64 0] (0, 0) _ rfl (by (with_reducible repeat first | apply blk_drewN | apply blk_drew | apply blk_alloc); refine blk_put (cs := #[.int .i64 0, .int .i64 0, .string (⟨#[]⟩ : ByteArray), .int .i64 0, .int .u64 0]) ?_ 4 _ rfl; (with_reducible repeat first | apply blk_drewN | apply blk_drew | apply blk_alloc); refine blk_put (cs := #[.int .i64 0, .int .i64 0, .string (⟨#[]⟩ : ByteArray), .int .i64 0, .int .u64 0]) ?_ 3 _ rfl; (with_reducible repeat first | apply blk_drewN | apply blk_drew | apply blk_alloc); refine blk_put (cs := #[.int .i64 0, .int .i64 0, .string (⟨#[]⟩ : ByteArray), .int .i64 0, .int .u64 0]) ?_ 2 _ rfl; (with_reducible repeat first | apply blk_drewN | apply blk_drew | apply blk_alloc); refine blk_put (cs := #[.int .i64 0, .int .i64 0, .string (⟨#[]⟩ : ByteArray), .int .i64 0, .int .u64 0]) ?_ 1 _ rfl; (with_reducible repeat first | apply blk_drewN | apply blk_drew | apply blk_alloc); refine blk_put (cs := #[.int .i64 0, .int .i64 0, .string (⟨#[]⟩ : ByteArray), .int .i64 0, .int .u64 0]) ?_ 0 _ rfl; (with_reducible repeat first | apply blk_drewN | apply blk_drew | apply blk_alloc); exact BK191.out) Tryd.underlying30 rfl (by kernel_rfl)) rfl ?_
    exact ⟨x49_27, x49_13⟩
  ·rw [if_neg c4] at H
   exact absurd H (by simp)
 ·rw [if_neg c3] at H
  exact absurd H (by simp)
def lex_marks.f  : Option (List ByteArray) := some (([(⟨#[61, 61]⟩ : ByteArray), (⟨#[33, 61]⟩ : ByteArray), (⟨#[60, 61]⟩ : ByteArray), (⟨#[62, 61]⟩ : ByteArray), (⟨#[60, 60]⟩ : ByteArray), (⟨#[62, 62]⟩ : ByteArray), (⟨#[47, 47]⟩ : ByteArray), (⟨#[46, 46]⟩ : ByteArray), (⟨#[43]⟩ : ByteArray), (⟨#[45]⟩ : ByteArray), (⟨#[42]⟩ : ByteArray), (⟨#[47]⟩ : ByteArray), (⟨#[37]⟩ : ByteArray), (⟨#[38]⟩ : ByteArray), (⟨#[124]⟩ : ByteArray), (⟨#[94]⟩ : ByteArray), (⟨#[126]⟩ : ByteArray), (⟨#[60]⟩ : ByteArray), (⟨#[62]⟩ : ByteArray), (⟨#[61]⟩ : ByteArray), (⟨#[40]⟩ : ByteArray), (⟨#[41]⟩ : ByteArray), (⟨#[123]⟩ : ByteArray), (⟨#[125]⟩ : ByteArray), (⟨#[91]⟩ : ByteArray), (⟨#[93]⟩ : ByteArray), (⟨#[44]⟩ : ByteArray), (⟨#[59]⟩ : ByteArray), (⟨#[58]⟩ : ByteArray)] : List ByteArray))
set_option maxHeartbeats 8000000 in
set_option maxRecDepth 100000 in
theorem lex_marks.calls  (r : List ByteArray) (w : World) (h : lex_marks.f  = some r) :
  Calls Tryd.prog 63 #[] w fun e w' => ∃ v0_ : Value, e = .returned (v0_) ∧ Kd.R Kd.string 9 w' w.heap.size (fun _ => True) v0_ r ∧ Below w.heap.size w w' := by
 have HB := Aside0.mk (Below.refl w.heap.size w)
 have H : (some (([(⟨#[61, 61]⟩ : ByteArray), (⟨#[33, 61]⟩ : ByteArray), (⟨#[60, 61]⟩ : ByteArray), (⟨#[62, 61]⟩ : ByteArray), (⟨#[60, 60]⟩ : ByteArray), (⟨#[62, 62]⟩ : ByteArray), (⟨#[47, 47]⟩ : ByteArray), (⟨#[46, 46]⟩ : ByteArray), (⟨#[43]⟩ : ByteArray), (⟨#[45]⟩ : ByteArray), (⟨#[42]⟩ : ByteArray), (⟨#[47]⟩ : ByteArray), (⟨#[37]⟩ : ByteArray), (⟨#[38]⟩ : ByteArray), (⟨#[124]⟩ : ByteArray), (⟨#[94]⟩ : ByteArray), (⟨#[126]⟩ : ByteArray), (⟨#[60]⟩ : ByteArray), (⟨#[62]⟩ : ByteArray), (⟨#[61]⟩ : ByteArray), (⟨#[40]⟩ : ByteArray), (⟨#[41]⟩ : ByteArray), (⟨#[123]⟩ : ByteArray), (⟨#[125]⟩ : ByteArray), (⟨#[91]⟩ : ByteArray), (⟨#[93]⟩ : ByteArray), (⟨#[44]⟩ : ByteArray), (⟨#[59]⟩ : ByteArray), (⟨#[58]⟩ : ByteArray)] : List ByteArray))) = some r := h
 clear h
 obtain ⟨y195, hy195⟩ : ∃ y_ : List ByteArray, y_ = (([(⟨#[61, 61]⟩ : ByteArray), (⟨#[33, 61]⟩ : ByteArray), (⟨#[60, 61]⟩ : ByteArray), (⟨#[62, 61]⟩ : ByteArray), (⟨#[60, 60]⟩ : ByteArray), (⟨#[62, 62]⟩ : ByteArray), (⟨#[47, 47]⟩ : ByteArray), (⟨#[46, 46]⟩ : ByteArray), (⟨#[43]⟩ : ByteArray), (⟨#[45]⟩ : ByteArray), (⟨#[42]⟩ : ByteArray), (⟨#[47]⟩ : ByteArray), (⟨#[37]⟩ : ByteArray), (⟨#[38]⟩ : ByteArray), (⟨#[124]⟩ : ByteArray), (⟨#[94]⟩ : ByteArray), (⟨#[126]⟩ : ByteArray), (⟨#[60]⟩ : ByteArray), (⟨#[62]⟩ : ByteArray), (⟨#[61]⟩ : ByteArray), (⟨#[40]⟩ : ByteArray), (⟨#[41]⟩ : ByteArray), (⟨#[123]⟩ : ByteArray), (⟨#[125]⟩ : ByteArray), (⟨#[91]⟩ : ByteArray), (⟨#[93]⟩ : ByteArray), (⟨#[44]⟩ : ByteArray), (⟨#[59]⟩ : ByteArray), (⟨#[58]⟩ : ByteArray)] : List ByteArray)) := ⟨_, rfl⟩
 replace H : (some y195) = some r := by first | (rw [hy195]; with_reducible exact H) | (have H2_ := (Option.bind_some _ _).symm.trans H; rw [hy195]; with_reducible exact H2_) | (have H2_ := (Option.bind_some _ _).symm.trans H; with_reducible exact H2_) | with_reducible exact H | (rw [hy195]; exact H) | exact H
 have Ny195 := Aside0.mk hy195
 clear hy195
 obtain rfl := Option.some.inj H
 go_enter Tryd.func63, Tryd.ntmps63
 go_wp2_with (first | ((with_reducible refine gate_dst (N := 1) rfl ?_); refine Kd.R_lit Kd.string _ 9 ?hg (N := 1) ?hd (xs := ([(⟨#[61, 61]⟩ : ByteArray), (⟨#[33, 61]⟩ : ByteArray), (⟨#[60, 61]⟩ : ByteArray), (⟨#[62, 61]⟩ : ByteArray), (⟨#[60, 60]⟩ : ByteArray), (⟨#[62, 62]⟩ : ByteArray), (⟨#[47, 47]⟩ : ByteArray), (⟨#[46, 46]⟩ : ByteArray), (⟨#[43]⟩ : ByteArray), (⟨#[45]⟩ : ByteArray), (⟨#[42]⟩ : ByteArray), (⟨#[47]⟩ : ByteArray), (⟨#[37]⟩ : ByteArray), (⟨#[38]⟩ : ByteArray), (⟨#[124]⟩ : ByteArray), (⟨#[94]⟩ : ByteArray), (⟨#[126]⟩ : ByteArray), (⟨#[60]⟩ : ByteArray), (⟨#[62]⟩ : ByteArray), (⟨#[61]⟩ : ByteArray), (⟨#[40]⟩ : ByteArray), (⟨#[41]⟩ : ByteArray), (⟨#[123]⟩ : ByteArray), (⟨#[125]⟩ : ByteArray), (⟨#[91]⟩ : ByteArray), (⟨#[93]⟩ : ByteArray), (⟨#[44]⟩ : ByteArray), (⟨#[59]⟩ : ByteArray), (⟨#[58]⟩ : ByteArray)] : List ByteArray)) (inner := [.string (⟨#[61, 61]⟩ : ByteArray), .string (⟨#[33, 61]⟩ : ByteArray), .string (⟨#[60, 61]⟩ : ByteArray), .string (⟨#[62, 61]⟩ : ByteArray), .string (⟨#[60, 60]⟩ : ByteArray), .string (⟨#[62, 62]⟩ : ByteArray), .string (⟨#[47, 47]⟩ : ByteArray), .string (⟨#[46, 46]⟩ : ByteArray), .string (⟨#[43]⟩ : ByteArray), .string (⟨#[45]⟩ : ByteArray), .string (⟨#[42]⟩ : ByteArray), .string (⟨#[47]⟩ : ByteArray), .string (⟨#[37]⟩ : ByteArray), .string (⟨#[38]⟩ : ByteArray), .string (⟨#[124]⟩ : ByteArray), .string (⟨#[94]⟩ : ByteArray), .string (⟨#[126]⟩ : ByteArray), .string (⟨#[60]⟩ : ByteArray), .string (⟨#[62]⟩ : ByteArray), .string (⟨#[61]⟩ : ByteArray), .string (⟨#[40]⟩ : ByteArray), .string (⟨#[41]⟩ : ByteArray), .string (⟨#[123]⟩ : ByteArray), .string (⟨#[125]⟩ : ByteArray), .string (⟨#[91]⟩ : ByteArray), .string (⟨#[93]⟩ : ByteArray), .string (⟨#[44]⟩ : ByteArray), .string (⟨#[59]⟩ : ByteArray), .string (⟨#[58]⟩ : ByteArray)]) (ok := fun _ => True) (okp := fun _ => True) ?hr ?hp (fun _ hk => hk) trivial (Below.refl _ _) (Nat.le_refl _) (by simp) ?_; (case hd => rfl); (case hg => rfl); (case hr => first | (go_simp; done) | (go_simp; rfl)); (case hp => exact (Reps.one (show Kd.M Kd.string _ _ _ (⟨#[61, 61]⟩ : ByteArray) [.string (⟨#[61, 61]⟩ : ByteArray)] from rfl) (Reps.one (show Kd.M Kd.string _ _ _ (⟨#[33, 61]⟩ : ByteArray) [.string (⟨#[33, 61]⟩ : ByteArray)] from rfl) (Reps.one (show Kd.M Kd.string _ _ _ (⟨#[60, 61]⟩ : ByteArray) [.string (⟨#[60, 61]⟩ : ByteArray)] from rfl) (Reps.one (show Kd.M Kd.string _ _ _ (⟨#[62, 61]⟩ : ByteArray) [.string (⟨#[62, 61]⟩ : ByteArray)] from rfl) (Reps.one (show Kd.M Kd.string _ _ _ (⟨#[60, 60]⟩ : ByteArray) [.string (⟨#[60, 60]⟩ : ByteArray)] from rfl) (Reps.one (show Kd.M Kd.string _ _ _ (⟨#[62, 62]⟩ : ByteArray) [.string (⟨#[62, 62]⟩ : ByteArray)] from rfl) (Reps.one (show Kd.M Kd.string _ _ _ (⟨#[47, 47]⟩ : ByteArray) [.string (⟨#[47, 47]⟩ : ByteArray)] from rfl) (Reps.one (show Kd.M Kd.string _ _ _ (⟨#[46, 46]⟩ : ByteArray) [.string (⟨#[46, 46]⟩ : ByteArray)] from rfl) (Reps.one (show Kd.M Kd.string _ _ _ (⟨#[43]⟩ : ByteArray) [.string (⟨#[43]⟩ : ByteArray)] from rfl) (Reps.one (show Kd.M Kd.string _ _ _ (⟨#[45]⟩ : ByteArray) [.string (⟨#[45]⟩ : ByteArray)] from rfl) (Reps.one (show Kd.M Kd.string _ _ _ (⟨#[42]⟩ : ByteArray) [.string (⟨#[42]⟩ : ByteArray)] from rfl) (Reps.one (show Kd.M Kd.string _ _ _ (⟨#[47]⟩ : ByteArray) [.string (⟨#[47]⟩ : ByteArray)] from rfl) (Reps.one (show Kd.M Kd.string _ _ _ (⟨#[37]⟩ : ByteArray) [.string (⟨#[37]⟩ : ByteArray)] from rfl) (Reps.one (show Kd.M Kd.string _ _ _ (⟨#[38]⟩ : ByteArray) [.string (⟨#[38]⟩ : ByteArray)] from rfl) (Reps.one (show Kd.M Kd.string _ _ _ (⟨#[124]⟩ : ByteArray) [.string (⟨#[124]⟩ : ByteArray)] from rfl) (Reps.one (show Kd.M Kd.string _ _ _ (⟨#[94]⟩ : ByteArray) [.string (⟨#[94]⟩ : ByteArray)] from rfl) (Reps.one (show Kd.M Kd.string _ _ _ (⟨#[126]⟩ : ByteArray) [.string (⟨#[126]⟩ : ByteArray)] from rfl) (Reps.one (show Kd.M Kd.string _ _ _ (⟨#[60]⟩ : ByteArray) [.string (⟨#[60]⟩ : ByteArray)] from rfl) (Reps.one (show Kd.M Kd.string _ _ _ (⟨#[62]⟩ : ByteArray) [.string (⟨#[62]⟩ : ByteArray)] from rfl) (Reps.one (show Kd.M Kd.string _ _ _ (⟨#[61]⟩ : ByteArray) [.string (⟨#[61]⟩ : ByteArray)] from rfl) (Reps.one (show Kd.M Kd.string _ _ _ (⟨#[40]⟩ : ByteArray) [.string (⟨#[40]⟩ : ByteArray)] from rfl) (Reps.one (show Kd.M Kd.string _ _ _ (⟨#[41]⟩ : ByteArray) [.string (⟨#[41]⟩ : ByteArray)] from rfl) (Reps.one (show Kd.M Kd.string _ _ _ (⟨#[123]⟩ : ByteArray) [.string (⟨#[123]⟩ : ByteArray)] from rfl) (Reps.one (show Kd.M Kd.string _ _ _ (⟨#[125]⟩ : ByteArray) [.string (⟨#[125]⟩ : ByteArray)] from rfl) (Reps.one (show Kd.M Kd.string _ _ _ (⟨#[91]⟩ : ByteArray) [.string (⟨#[91]⟩ : ByteArray)] from rfl) (Reps.one (show Kd.M Kd.string _ _ _ (⟨#[93]⟩ : ByteArray) [.string (⟨#[93]⟩ : ByteArray)] from rfl) (Reps.one (show Kd.M Kd.string _ _ _ (⟨#[44]⟩ : ByteArray) [.string (⟨#[44]⟩ : ByteArray)] from rfl) (Reps.one (show Kd.M Kd.string _ _ _ (⟨#[59]⟩ : ByteArray) [.string (⟨#[59]⟩ : ByteArray)] from rfl) (Reps.one (show Kd.M Kd.string _ _ _ (⟨#[58]⟩ : ByteArray) [.string (⟨#[58]⟩ : ByteArray)] from rfl) (Reps.none _ _))))))))))))))))))))))))))))))); intro v196 w1 ho2 hb hg_ hnew_; clear hg_ hnew_; (first | rw [← Ny195.out] at ho2 | (simp only [Int.reduceToNat] at ho2; rw [← Ny195.out] at ho2)); have n0_ := Aside0.mk (Kd.R_lower ho2 (below_size x49_17)); have n1_ := Aside0.mk (below_step x49_17 hb); clear HB; have HO197 := n0_; have HB := n1_; clear n0_ n1_; clear hb ho2))
 go_ret
 exact ⟨_, x49_27, by (with_reducible repeat (first | apply Kd.R_alloc | apply Kd.R_drewN | apply Kd.R_drew)); exact HO197.out, x49_17⟩
def lex_mark.l0 : Nat → ByteArray → List ByteArray → Int → Int → Option (Int × Int × ByteArray × Int × Int × Int × Int)
 | 0, _, _, _, _ => none
 | k + 1, x0, x7, x8, x9 => if x9 < x8 then (if 0 ≤ x9 then (if x9 < (x7.length : Int) then ((strings_HasPrefix.f x0 (rdOf ByteArray.empty x7 x9)).bind fun t203 => (if t203 = true then (some (3, 0, rdOf ByteArray.empty x7 x9, 0, 0, ((rdOf ByteArray.empty x7 x9).size : Int), 0)) else (lex_mark.l0 k x0 x7 x8 (wrap64 (x9 + 1))))) else (none)) else (none)) else (some (0, 0, (⟨#[]⟩ : ByteArray), 0, 0, 0, 60))
def lex_mark.f (k : Nat) (a0 : ByteArray) : Option (Int × Int × ByteArray × Int × Int × Int × Int) := (lex_marks.f).bind fun t199 => (lex_mark.l0 k a0 t199 (t199.length : Int) 0)
set_option maxHeartbeats 8000000 in
set_option maxRecDepth 100000 in
theorem lex_mark.calls (k : Nat) (a0 : ByteArray) (r1 : Int) (r2 : Int) (r3 : ByteArray) (r4 : Int) (r5 : Int) (r6 : Int) (r7 : Int) (w : World) (h : lex_mark.f k a0 = some (r1, r2, r3, r4, r5, r6, r7)) :
  Calls Tryd.prog 42 #[.string a0] w fun e w' => e = .returned (.tuple #[.agg #[.int .i64 r1, .int .i64 r2, .string r3, .int .i64 r4, .int .u64 r5], .int .i64 r6, .int .i64 r7]) ∧ Below w.heap.size w w' := by
 have hu30 := Tryd.underlying30
 have HB := Aside0.mk (Below.refl w.heap.size w)
 have H : ((lex_marks.f).bind fun t199 => (lex_mark.l0 k a0 t199 (t199.length : Int) 0)) = some (r1, r2, r3, r4, r5, r6, r7) := h
 clear h
 obtain ⟨t199, A20, H⟩ := Option.bind_eq_some_iff.mp H
 have A2 := Aside0.mk A20
 clear A20
 have H' := Aside0.mk H
 clear H
 go_enter Tryd.func42, Tryd.ntmps42
 go_wp2_with (first | ((with_reducible refine gate_dst (N := 2) rfl ?_); refine box_event ?hg (N := 2) ?hd (cs := #[.int .i64 0, .int .i64 0, .string (⟨#[]⟩ : ByteArray), .int .i64 0, .int .u64 0]) (t := 30) ?hr ?_; (case hd => rfl); (case hg => rfl); (case hr => first | (go_simp; done) | (go_simp; rfl)); intro gb198 hg w3 hbox hb; have n0_ := Aside0.mk (below_step x49_17 hb); have n1_ := Aside0.mk (hbox); have n2_ := Aside0.mk ((by rw [hg]; exact (below_size x49_17) : w.heap.size ≤ gb198)); have n3_ := Aside0.mk ((by rw [hg]; exact (below_size x49_17) : w.heap.size ≤ gb198)); clear HB; have HB := n0_; have BK198 := n1_; have GW198 := n2_; have GE198 := n3_; clear n0_ n1_ n2_ n3_; clear hb hbox hg) | ((with_reducible refine gate_callee (f := 63) rfl ?_); refine goesL_ (some 7) rfl rfl Tryd.func63 (by kernel_rfl) rfl #[] rfl x49_16 ?_; (with_reducible refine (lex_marks.calls  t199 _ A2.out).mono ?_); rintro e w4 ⟨v200, rfl, ho0, hb⟩; refine ⟨_, rfl, ?_⟩; have n0_ := Aside0.mk (Kd.R_lower ho0 (below_size x49_14)); have n1_ := Aside0.mk (blk_below (g := gb198) (o := .cells #[.int .i64 0, .int .i64 0, .string (⟨#[]⟩ : ByteArray), .int .i64 0, .int .u64 0] 30 (0, 0)) x49_24 hb); have n2_ := Aside0.mk (below_step x49_14 hb); clear BK198; clear HB; have HO201 := n0_; have BK198 := n1_; have HB := n2_; clear n0_ n1_ n2_; obtain ⟨Ao5, co5, eo5⟩ := Kd.R_slice HO201.out; subst eo5))
 go_loopg [9] k (fun kq v9 w' => ∃ (x9_1 : Int) (x199000_1 : Int) (x199001_1 : Int) (x199002_1 : ByteArray) (x199003_1 : Int) (x199004_1 : Int), v9 = .int .i64 x9_1 ∧ Aside0 (lex_mark.l0 kq a0 t199 (t199.length : Int) x9_1 = some (r1, r2, r3, r4, r5, r6, r7)) ∧ Aside0 (kq ≤ k) ∧ Aside0 (Kd.R Kd.string 9 w' w.heap.size (fun _ => True) (.slice Ao5 t199.length co5) t199) ∧ Aside0 (w'.heap[gb198]? = some (.cells #[.int .i64 x199000_1, .int .i64 x199001_1, .string x199002_1, .int .i64 x199003_1, .int .u64 x199004_1] 30 (0, 0))) ∧ Aside0 (Below w.heap.size w w'))
 case atStart => exact ⟨(0), (0), (0), ((⟨#[]⟩ : ByteArray)), (0), (0), x49_32, H', ⟨Nat.le_refl _⟩, ⟨by (with_reducible repeat (first | apply Kd.R_alloc | apply Kd.R_drewN | apply Kd.R_drew)); exact HO201.out⟩, ⟨x49_24⟩, ⟨x49_14⟩⟩
 case round =>
  clear H'
  obtain ⟨x9_1, x199000_1, x199001_1, x199002_1, x199003_1, x199004_1, rfl, HA, HK1, HO_7, BK198, HB⟩ := hrel
  cases gk with
  | zero => exact absurd HA.out (by simp [lex_mark.l0])
  | succ k1 =>
   have H := HA.out
   clear HA
   simp only [lex_mark.l0] at H
   by_cases c6 : x9_1 < (t199.length : Int)
   ·rw [if_pos c6] at H
    have c6b0 := decide_eq_true c6
    clear c6
    by_cases c7 : 0 ≤ x9_1
    ·rw [if_pos c7] at H
     have c7b0 := decide_eq_true c7
     clear c7
     by_cases c8 : x9_1 < (t199.length : Int)
     ·rw [if_pos c8] at H
      have c8b0 := decide_eq_true c8
      clear c8
      obtain ⟨t203, A90, H⟩ := Option.bind_eq_some_iff.mp H
      have A9 := Aside0.mk A90
      clear A90
      by_cases c10 : t203 = true
      ·subst c10
       rw [if_pos rfl] at H
       simp only [Option.some.injEq, Prod.mk.injEq] at H
       obtain ⟨rfl, rfl, rfl, rfl, rfl, rfl, rfl⟩ := H
       have p202 : 0 ≤ (x9_1 : Int) := of_decide_eq_true x49_31
       have q202 : x9_1 < (t199.length : Int) := of_decide_eq_true x49_31
       obtain ⟨ad202, e202, hx202_0⟩ := Kd.at_string (Kd.R_reads' HO_7.out).2.2 x9_1 p202 q202
       cases e202
       replace p202 := eq_true p202
       replace q202 := eq_true q202
       go_wp2_with (first | ((with_reducible refine gate_callee (f := 37) rfl ?_); refine goesL_ (some 15) rfl rfl Tryd.func37 (by kernel_rfl) rfl #[.string a0, .string (rdOf ByteArray.empty t199 x9_1)] rfl x49_16 ?_; (with_reducible refine (strings_HasPrefix.calls a0 (rdOf ByteArray.empty t199 x9_1) true _ A9.out).mono ?_); rintro e w' ⟨rfl, ⟨nd, rfl⟩⟩; refine ⟨_, rfl, ?_⟩; (try (rw [drewN_self wr]; generalize hq_ : World.drewN wr _ = wr; have n0_ : Aside0 (Kd.R Kd.string 9 wr w.heap.size (fun _ => True) (.slice (some ad202) t199.length co5) t199) := ⟨by rw [← hq_]; exact x49_21⟩; have n1_ : Aside0 (wr.heap[gb198]? = some (.cells #[.int .i64 x199000_1, .int .i64 x199001_1, .string x199002_1, .int .i64 x199003_1, .int .u64 x199004_1] 30 (0, 0))) := ⟨by rw [← hq_]; exact x49_24⟩; have n2_ : Aside0 (Below w.heap.size w wr) := ⟨by rw [← hq_]; exact x49_14⟩; clear HO_7 BK198 HB hq_; have HO_7 := n0_; have BK198 := n1_; have HB := n2_; clear n0_ n1_ n2_)); have hcz11_0 : wr.cell? ⟨gb198, 0, none⟩ = some (.int .i64 x199000_1) := (blk_cell BK198.out 0).trans rfl; have hcz11_1 : wr.cell? ⟨gb198, 1, none⟩ = some (.int .i64 x199001_1) := (blk_cell BK198.out 1).trans rfl; have hcz11_2 : wr.cell? ⟨gb198, 2, none⟩ = some (.string x199002_1) := (blk_cell BK198.out 2).trans rfl; have hcz11_3 : wr.cell? ⟨gb198, 3, none⟩ = some (.int .i64 x199003_1) := (blk_cell BK198.out 3).trans rfl; have hcz11_4 : wr.cell? ⟨gb198, 4, none⟩ = some (.int .u64 x199004_1) := (blk_cell BK198.out 4).trans rfl; have hfz11_0 := blk_frozen BK198.out 0; have hfz11_1 := blk_frozen BK198.out 1; have hfz11_2 := blk_frozen BK198.out 2; have hfz11_3 := blk_frozen BK198.out 3; have hfz11_4 := blk_frozen BK198.out 4))
       refine bodyPost_ret (results_ctt rfl _ _ gb198 30 #[.int .i64 3, .int .i64 0, .string (rdOf ByteArray.empty t199 x9_1), .int .i64 0, .int .u64 0] (0, 0) _ rfl (by (with_reducible repeat first | apply blk_drewN | apply blk_drew | apply blk_alloc); refine blk_put (cs := #[.int .i64 3, .int .i64 0, .string (rdOf ByteArray.empty t199 x9_1), .int .i64 0, .int .u64 x199004_1]) ?_ 4 _ rfl; (with_reducible repeat first | apply blk_drewN | apply blk_drew | apply blk_alloc); refine blk_put (cs := #[.int .i64 3, .int .i64 0, .string (rdOf ByteArray.empty t199 x9_1), .int .i64 x199003_1, .int .u64 x199004_1]) ?_ 3 _ rfl; (with_reducible repeat first | apply blk_drewN | apply blk_drew | apply blk_alloc); refine blk_put (cs := #[.int .i64 3, .int .i64 0, .string x199002_1, .int .i64 x199003_1, .int .u64 x199004_1]) ?_ 2 _ rfl; (with_reducible repeat first | apply blk_drewN | apply blk_drew | apply blk_alloc); refine blk_put (cs := #[.int .i64 3, .int .i64 x199001_1, .string x199002_1, .int .i64 x199003_1, .int .u64 x199004_1]) ?_ 1 _ rfl; (with_reducible repeat first | apply blk_drewN | apply blk_drew | apply blk_alloc); refine blk_put (cs := #[.int .i64 x199000_1, .int .i64 x199001_1, .string x199002_1, .int .i64 x199003_1, .int .u64 x199004_1]) ?_ 0 _ rfl; (with_reducible repeat first | apply blk_drewN | apply blk_drew | apply blk_alloc); exact BK198.out) Tryd.underlying30 rfl (by kernel_rfl)) rfl ?_
       exact ⟨x49_27, x49_14⟩
      ·replace c10 := Bool.eq_false_iff.mpr c10
       subst c10
       rw [if_neg (show ¬ (false = true) by decide)] at H
       have H' := Aside0.mk H
       clear H
       have p202 : 0 ≤ (x9_1 : Int) := of_decide_eq_true x49_31
       have q202 : x9_1 < (t199.length : Int) := of_decide_eq_true x49_31
       obtain ⟨ad202, e202, hx202_0⟩ := Kd.at_string (Kd.R_reads' HO_7.out).2.2 x9_1 p202 q202
       cases e202
       replace p202 := eq_true p202
       replace q202 := eq_true q202
       go_wp2_with (first | ((with_reducible refine gate_callee (f := 37) rfl ?_); refine goesL_ (some 15) rfl rfl Tryd.func37 (by kernel_rfl) rfl #[.string a0, .string (rdOf ByteArray.empty t199 x9_1)] rfl x49_16 ?_; (with_reducible refine (strings_HasPrefix.calls a0 (rdOf ByteArray.empty t199 x9_1) false _ A9.out).mono ?_); rintro e w' ⟨rfl, ⟨nd, rfl⟩⟩; refine ⟨_, rfl, ?_⟩))
       go_roundg k1
       case measure => have := HK1.out; omega
       case rel => exact ⟨(wrap64 (x9_1 + 1)), (x199000_1), (x199001_1), (x199002_1), (x199003_1), (x199004_1), x49_32, H', ⟨by have := HK1.out; omega⟩, ⟨x49_21⟩, ⟨x49_24⟩, ⟨x49_14⟩⟩
     ·rw [if_neg c8] at H
      exact absurd H (by simp)
    ·rw [if_neg c7] at H
     exact absurd H (by simp)
   ·rw [if_neg c6] at H
    have c6b0 := decide_eq_false c6
    clear c6
    simp only [Option.some.injEq, Prod.mk.injEq] at H
    obtain ⟨rfl, rfl, rfl, rfl, rfl, rfl, rfl⟩ := H
    have hcz12_0 : wr.cell? ⟨gb198, 0, none⟩ = some (.int .i64 x199000_1) := (blk_cell BK198.out 0).trans rfl
    have hcz12_1 : wr.cell? ⟨gb198, 1, none⟩ = some (.int .i64 x199001_1) := (blk_cell BK198.out 1).trans rfl
    have hcz12_2 : wr.cell? ⟨gb198, 2, none⟩ = some (.string x199002_1) := (blk_cell BK198.out 2).trans rfl
    have hcz12_3 : wr.cell? ⟨gb198, 3, none⟩ = some (.int .i64 x199003_1) := (blk_cell BK198.out 3).trans rfl
    have hcz12_4 : wr.cell? ⟨gb198, 4, none⟩ = some (.int .u64 x199004_1) := (blk_cell BK198.out 4).trans rfl
    have hfz12_0 := blk_frozen BK198.out 0
    have hfz12_1 := blk_frozen BK198.out 1
    have hfz12_2 := blk_frozen BK198.out 2
    have hfz12_3 := blk_frozen BK198.out 3
    have hfz12_4 := blk_frozen BK198.out 4
    go_wp2
    refine bodyPost_ret (results_ctt rfl _ _ gb198 30 #[.int .i64 0, .int .i64 0, .string (⟨#[]⟩ : ByteArray), .int .i64 0, .int .u64 0] (0, 0) _ rfl (by (with_reducible repeat first | apply blk_drewN | apply blk_drew | apply blk_alloc); refine blk_put (cs := #[.int .i64 0, .int .i64 0, .string (⟨#[]⟩ : ByteArray), .int .i64 0, .int .u64 x199004_1]) ?_ 4 _ rfl; (with_reducible repeat first | apply blk_drewN | apply blk_drew | apply blk_alloc); refine blk_put (cs := #[.int .i64 0, .int .i64 0, .string (⟨#[]⟩ : ByteArray), .int .i64 x199003_1, .int .u64 x199004_1]) ?_ 3 _ rfl; (with_reducible repeat first | apply blk_drewN | apply blk_drew | apply blk_alloc); refine blk_put (cs := #[.int .i64 0, .int .i64 0, .string x199002_1, .int .i64 x199003_1, .int .u64 x199004_1]) ?_ 2 _ rfl; (with_reducible repeat first | apply blk_drewN | apply blk_drew | apply blk_alloc); refine blk_put (cs := #[.int .i64 0, .int .i64 x199001_1, .string x199002_1, .int .i64 x199003_1, .int .u64 x199004_1]) ?_ 1 _ rfl; (with_reducible repeat first | apply blk_drewN | apply blk_drew | apply blk_alloc); refine blk_put (cs := #[.int .i64 x199000_1, .int .i64 x199001_1, .string x199002_1, .int .i64 x199003_1, .int .u64 x199004_1]) ?_ 0 _ rfl; (with_reducible repeat first | apply blk_drewN | apply blk_drew | apply blk_alloc); exact BK198.out) Tryd.underlying30 rfl (by kernel_rfl)) rfl ?_
    exact ⟨x49_27, x49_14⟩
def lex_next.f (k : Nat) (a0 : ByteArray) : Option (Int × Int × ByteArray × Int × Int × Int × Int) := if 0 < (a0.size : Int) then ((lex_lower.f (bt a0 0)).bind fun t205 => (if t205 = true then ((lex_name.f k a0).bind fun bt206 => (some (bt206.1, bt206.2.1, bt206.2.2.1, bt206.2.2.2.1, bt206.2.2.2.2.1, bt206.2.2.2.2.2.1, bt206.2.2.2.2.2.2))) else ((strings_HasPrefix.f a0 (⟨#[48, 120]⟩ : ByteArray)).bind fun t213 => (if t213 = true then ((lex_double.f k a0).bind fun bt214 => (some (bt214.1, bt214.2.1, bt214.2.2.1, bt214.2.2.2.1, bt214.2.2.2.2.1, bt214.2.2.2.2.2.1, bt214.2.2.2.2.2.2))) else ((lex_digit.f (bt a0 0)).bind fun t221 => (if t221 = true then ((lex_whole.f a0).bind fun bt222 => (some (bt222.1, bt222.2.1, bt222.2.2.1, bt222.2.2.2.1, bt222.2.2.2.2.1, bt222.2.2.2.2.2.1, bt222.2.2.2.2.2.2))) else (if (bt a0 0) = 34 then ((lex_quoted.f k a0).bind fun bt229 => (some (bt229.1, bt229.2.1, bt229.2.2.1, bt229.2.2.2.1, bt229.2.2.2.2.1, bt229.2.2.2.2.2.1, bt229.2.2.2.2.2.2))) else ((lex_mark.f k a0).bind fun bt236 => (some (bt236.1, bt236.2.1, bt236.2.2.1, bt236.2.2.2.1, bt236.2.2.2.2.1, bt236.2.2.2.2.2.1, bt236.2.2.2.2.2.2)))))))))) else (none)
set_option maxHeartbeats 8000000 in
set_option maxRecDepth 100000 in
theorem lex_next.calls (k : Nat) (a0 : ByteArray) (r1 : Int) (r2 : Int) (r3 : ByteArray) (r4 : Int) (r5 : Int) (r6 : Int) (r7 : Int) (w : World) (hG : Glob w) (h : lex_next.f k a0 = some (r1, r2, r3, r4, r5, r6, r7)) :
  Calls Tryd.prog 20 #[.string a0] w fun e w' => e = .returned (.tuple #[.agg #[.int .i64 r1, .int .i64 r2, .string r3, .int .i64 r4, .int .u64 r5], .int .i64 r6, .int .i64 r7]) ∧ Below w.heap.size w w' := by
 have HG0 := Aside0.mk hG
 clear hG
 have hu30 := Tryd.underlying30
 have HB := Aside0.mk (Below.refl w.heap.size w)
 have H : (if 0 < (a0.size : Int) then ((lex_lower.f (bt a0 0)).bind fun t205 => (if t205 = true then ((lex_name.f k a0).bind fun bt206 => (some (bt206.1, bt206.2.1, bt206.2.2.1, bt206.2.2.2.1, bt206.2.2.2.2.1, bt206.2.2.2.2.2.1, bt206.2.2.2.2.2.2))) else ((strings_HasPrefix.f a0 (⟨#[48, 120]⟩ : ByteArray)).bind fun t213 => (if t213 = true then ((lex_double.f k a0).bind fun bt214 => (some (bt214.1, bt214.2.1, bt214.2.2.1, bt214.2.2.2.1, bt214.2.2.2.2.1, bt214.2.2.2.2.2.1, bt214.2.2.2.2.2.2))) else ((lex_digit.f (bt a0 0)).bind fun t221 => (if t221 = true then ((lex_whole.f a0).bind fun bt222 => (some (bt222.1, bt222.2.1, bt222.2.2.1, bt222.2.2.2.1, bt222.2.2.2.2.1, bt222.2.2.2.2.2.1, bt222.2.2.2.2.2.2))) else (if (bt a0 0) = 34 then ((lex_quoted.f k a0).bind fun bt229 => (some (bt229.1, bt229.2.1, bt229.2.2.1, bt229.2.2.2.1, bt229.2.2.2.2.1, bt229.2.2.2.2.2.1, bt229.2.2.2.2.2.2))) else ((lex_mark.f k a0).bind fun bt236 => (some (bt236.1, bt236.2.1, bt236.2.2.1, bt236.2.2.2.1, bt236.2.2.2.2.1, bt236.2.2.2.2.2.1, bt236.2.2.2.2.2.2)))))))))) else (none)) = some (r1, r2, r3, r4, r5, r6, r7) := h
 clear h
 by_cases c2 : 0 < (a0.size : Int)
 ·rw [if_pos c2] at H
  have c2b0 := decide_eq_true c2
  have c2b1 : decide (0 < a0.size) = true := decide_eq_true (by omega)
  clear c2
  obtain ⟨t205, A40, H⟩ := Option.bind_eq_some_iff.mp H
  have A4 := Aside0.mk A40
  clear A40
  by_cases c5 : t205 = true
  ·subst c5
   rw [if_pos rfl] at H
   replace H := Option.bind_eq_some_iff.mp H
   obtain ⟨⟨t206, t207, t208, t209, t210, t211, t212⟩, A60, H⟩ := H
   replace H : (some (t206, t207, t208, t209, t210, t211, t212)) = some (r1, r2, r3, r4, r5, r6, r7) := H
   have A6 := Aside0.mk A60
   clear A60
   simp only [Option.some.injEq, Prod.mk.injEq] at H
   obtain ⟨rfl, rfl, rfl, rfl, rfl, rfl, rfl⟩ := H
   go_enter Tryd.func20, Tryd.ntmps20
   go_wp2_with (first | ((with_reducible refine gate_dst (N := 2) rfl ?_); refine box_event ?hg (N := 2) ?hd (cs := #[.int .i64 0, .int .i64 0, .string (⟨#[]⟩ : ByteArray), .int .i64 0, .int .u64 0]) (t := 30) ?hr ?_; (case hd => rfl); (case hg => rfl); (case hr => first | (go_simp; done) | (go_simp; rfl)); intro gb204 hg w7 hbox hb; have n0_ := Aside0.mk (below_step x49_17 hb); have n1_ := Aside0.mk (hbox); have n2_ := Aside0.mk ((by rw [hg]; exact (below_size x49_17) : w.heap.size ≤ gb204)); have n3_ := Aside0.mk ((by rw [hg]; exact (below_size x49_17) : w.heap.size ≤ gb204)); clear HB; have HB := n0_; have BK204 := n1_; have GW204 := n2_; have GE204 := n3_; clear n0_ n1_ n2_ n3_; clear hb hbox hg; have p3 : 0 ≤ (0 : Int) := (by omega); have q3 : 0 < a0.size := (by have : (0 : Int) < (a0.size : Int) := of_decide_eq_true x49_31; omega); have hx3 : ∀ h : 0 < a0.size, ((a0[0]'h).toNat : Int) = bt a0 0 := bt_at a0 0; clear p3; have qi3 : (0 < (a0.size : Int)) = True := eq_true (of_decide_eq_true x49_31); replace q3 := eq_true q3) | ((with_reducible refine gate_callee (f := 35) rfl ?_); refine goesL_ (some 10) rfl rfl Tryd.func35 (by kernel_rfl) rfl #[.int .u8 (bt a0 0)] rfl x49_16 ?_; (with_reducible refine (lex_lower.calls (bt a0 0) true _ A4.out).mono ?_); rintro e w' ⟨rfl, ⟨nd, rfl⟩⟩; refine ⟨_, rfl, ?_⟩; (try (rw [drewN_self w7]; generalize hq_ : World.drewN w7 _ = w7; have n0_ : Aside0 (w7.heap[gb204]? = some (.cells #[.int .i64 0, .int .i64 0, .string (⟨#[]⟩ : ByteArray), .int .i64 0, .int .u64 0] 30 (0, 0))) := ⟨x49_20⟩; have n1_ : Aside0 (Below w.heap.size w w7) := ⟨x49_7⟩; clear BK204 HB hq_; have BK204 := n0_; have HB := n1_; clear n0_ n1_))) | ((with_reducible refine gate_callee (f := 36) rfl ?_); refine goesL_ (some 12) rfl rfl Tryd.func36 (by kernel_rfl) rfl #[.string a0] rfl x49_16 ?_; (with_reducible refine (lex_name.calls (hG := x49_4) k a0 t206 t207 t208 t209 t210 t211 t212 _ A6.out).mono ?_); rintro e w8 ⟨rfl, hb⟩; refine ⟨_, rfl, ?_⟩; have n0_ := Aside0.mk (blk_below (g := gb204) (o := .cells #[.int .i64 0, .int .i64 0, .string (⟨#[]⟩ : ByteArray), .int .i64 0, .int .u64 0] 30 (0, 0)) x49_25 hb); have n1_ := Aside0.mk (below_step x49_15 hb); clear BK204; clear HB; have BK204 := n0_; have HB := n1_; clear n0_ n1_; have hcz9_0 : w8.cell? ⟨gb204, 0, none⟩ = some (.int .i64 0) := (blk_cell BK204.out 0).trans rfl; have hcz9_1 : w8.cell? ⟨gb204, 1, none⟩ = some (.int .i64 0) := (blk_cell BK204.out 1).trans rfl; have hcz9_2 : w8.cell? ⟨gb204, 2, none⟩ = some (.string (⟨#[]⟩ : ByteArray)) := (blk_cell BK204.out 2).trans rfl; have hcz9_3 : w8.cell? ⟨gb204, 3, none⟩ = some (.int .i64 0) := (blk_cell BK204.out 3).trans rfl; have hcz9_4 : w8.cell? ⟨gb204, 4, none⟩ = some (.int .u64 0) := (blk_cell BK204.out 4).trans rfl; have hfz9_0 := blk_frozen BK204.out 0; have hfz9_1 := blk_frozen BK204.out 1; have hfz9_2 := blk_frozen BK204.out 2; have hfz9_3 := blk_frozen BK204.out 3; have hfz9_4 := blk_frozen BK204.out 4))
   refine bodyPost_ret (results_ctt rfl _ _ gb204 30 #[.int .i64 t206, .int .i64 t207, .string t208, .int .i64 t209, .int .u64 t210] (0, 0) _ rfl (by (with_reducible repeat first | apply blk_drewN | apply blk_drew | apply blk_alloc); refine blk_put (cs := #[.int .i64 t206, .int .i64 t207, .string t208, .int .i64 t209, .int .u64 0]) ?_ 4 _ rfl; (with_reducible repeat first | apply blk_drewN | apply blk_drew | apply blk_alloc); refine blk_put (cs := #[.int .i64 t206, .int .i64 t207, .string t208, .int .i64 0, .int .u64 0]) ?_ 3 _ rfl; (with_reducible repeat first | apply blk_drewN | apply blk_drew | apply blk_alloc); refine blk_put (cs := #[.int .i64 t206, .int .i64 t207, .string (⟨#[]⟩ : ByteArray), .int .i64 0, .int .u64 0]) ?_ 2 _ rfl; (with_reducible repeat first | apply blk_drewN | apply blk_drew | apply blk_alloc); refine blk_put (cs := #[.int .i64 t206, .int .i64 0, .string (⟨#[]⟩ : ByteArray), .int .i64 0, .int .u64 0]) ?_ 1 _ rfl; (with_reducible repeat first | apply blk_drewN | apply blk_drew | apply blk_alloc); refine blk_put (cs := #[.int .i64 0, .int .i64 0, .string (⟨#[]⟩ : ByteArray), .int .i64 0, .int .u64 0]) ?_ 0 _ rfl; (with_reducible repeat first | apply blk_drewN | apply blk_drew | apply blk_alloc); exact BK204.out) Tryd.underlying30 rfl (by kernel_rfl)) rfl ?_
   exact ⟨x49_27, x49_15⟩
  ·replace c5 := Bool.eq_false_iff.mpr c5
   subst c5
   rw [if_neg (show ¬ (false = true) by decide)] at H
   obtain ⟨t213, A100, H⟩ := Option.bind_eq_some_iff.mp H
   have A10 := Aside0.mk A100
   clear A100
   by_cases c11 : t213 = true
   ·subst c11
    rw [if_pos rfl] at H
    replace H := Option.bind_eq_some_iff.mp H
    obtain ⟨⟨t214, t215, t216, t217, t218, t219, t220⟩, A120, H⟩ := H
    replace H : (some (t214, t215, t216, t217, t218, t219, t220)) = some (r1, r2, r3, r4, r5, r6, r7) := H
    have A12 := Aside0.mk A120
    clear A120
    simp only [Option.some.injEq, Prod.mk.injEq] at H
    obtain ⟨rfl, rfl, rfl, rfl, rfl, rfl, rfl⟩ := H
    go_enter Tryd.func20, Tryd.ntmps20
    go_wp2_with (first | ((with_reducible refine gate_dst (N := 2) rfl ?_); refine box_event ?hg (N := 2) ?hd (cs := #[.int .i64 0, .int .i64 0, .string (⟨#[]⟩ : ByteArray), .int .i64 0, .int .u64 0]) (t := 30) ?hr ?_; (case hd => rfl); (case hg => rfl); (case hr => first | (go_simp; done) | (go_simp; rfl)); intro gb204 hg w13 hbox hb; have n0_ := Aside0.mk (below_step x49_17 hb); have n1_ := Aside0.mk (hbox); have n2_ := Aside0.mk ((by rw [hg]; exact (below_size x49_17) : w.heap.size ≤ gb204)); have n3_ := Aside0.mk ((by rw [hg]; exact (below_size x49_17) : w.heap.size ≤ gb204)); clear HB; have HB := n0_; have BK204 := n1_; have GW204 := n2_; have GE204 := n3_; clear n0_ n1_ n2_ n3_; clear hb hbox hg; have p3 : 0 ≤ (0 : Int) := (by omega); have q3 : 0 < a0.size := (by have : (0 : Int) < (a0.size : Int) := of_decide_eq_true x49_31; omega); have hx3 : ∀ h : 0 < a0.size, ((a0[0]'h).toNat : Int) = bt a0 0 := bt_at a0 0; clear p3; have qi3 : (0 < (a0.size : Int)) = True := eq_true (of_decide_eq_true x49_31); replace q3 := eq_true q3) | ((with_reducible refine gate_callee (f := 35) rfl ?_); refine goesL_ (some 10) rfl rfl Tryd.func35 (by kernel_rfl) rfl #[.int .u8 (bt a0 0)] rfl x49_16 ?_; (with_reducible refine (lex_lower.calls (bt a0 0) false _ A4.out).mono ?_); rintro e w' ⟨rfl, ⟨nd, rfl⟩⟩; refine ⟨_, rfl, ?_⟩; (try (rw [drewN_self w13]; generalize hq_ : World.drewN w13 _ = w13; have n0_ : Aside0 (w13.heap[gb204]? = some (.cells #[.int .i64 0, .int .i64 0, .string (⟨#[]⟩ : ByteArray), .int .i64 0, .int .u64 0] 30 (0, 0))) := ⟨x49_20⟩; have n1_ : Aside0 (Below w.heap.size w w13) := ⟨x49_7⟩; clear BK204 HB hq_; have BK204 := n0_; have HB := n1_; clear n0_ n1_))) | ((with_reducible refine gate_callee (f := 37) rfl ?_); refine goesL_ (some 18) rfl rfl Tryd.func37 (by kernel_rfl) rfl #[.string a0, .string (⟨#[48, 120]⟩ : ByteArray)] rfl x49_16 ?_; (with_reducible refine (strings_HasPrefix.calls a0 (⟨#[48, 120]⟩ : ByteArray) true _ A10.out).mono ?_); rintro e w' ⟨rfl, ⟨nd, rfl⟩⟩; refine ⟨_, rfl, ?_⟩; (try (rw [drewN_self w13]; generalize hq_ : World.drewN w13 _ = w13; have n0_ : Aside0 (w13.heap[gb204]? = some (.cells #[.int .i64 0, .int .i64 0, .string (⟨#[]⟩ : ByteArray), .int .i64 0, .int .u64 0] 30 (0, 0))) := ⟨x49_20⟩; have n1_ : Aside0 (Below w.heap.size w w13) := ⟨x49_7⟩; clear BK204 HB hq_; have BK204 := n0_; have HB := n1_; clear n0_ n1_))) | ((with_reducible refine gate_callee (f := 38) rfl ?_); refine goesL_ (some 20) rfl rfl Tryd.func38 (by kernel_rfl) rfl #[.string a0] rfl x49_16 ?_; (with_reducible refine (lex_double.calls (hG := x49_4) k a0 t214 t215 t216 t217 t218 t219 t220 _ A12.out).mono ?_); rintro e w14 ⟨rfl, hb⟩; refine ⟨_, rfl, ?_⟩; have n0_ := Aside0.mk (blk_below (g := gb204) (o := .cells #[.int .i64 0, .int .i64 0, .string (⟨#[]⟩ : ByteArray), .int .i64 0, .int .u64 0] 30 (0, 0)) x49_25 hb); have n1_ := Aside0.mk (below_step x49_15 hb); clear BK204; clear HB; have BK204 := n0_; have HB := n1_; clear n0_ n1_; have hcz15_0 : w14.cell? ⟨gb204, 0, none⟩ = some (.int .i64 0) := (blk_cell BK204.out 0).trans rfl; have hcz15_1 : w14.cell? ⟨gb204, 1, none⟩ = some (.int .i64 0) := (blk_cell BK204.out 1).trans rfl; have hcz15_2 : w14.cell? ⟨gb204, 2, none⟩ = some (.string (⟨#[]⟩ : ByteArray)) := (blk_cell BK204.out 2).trans rfl; have hcz15_3 : w14.cell? ⟨gb204, 3, none⟩ = some (.int .i64 0) := (blk_cell BK204.out 3).trans rfl; have hcz15_4 : w14.cell? ⟨gb204, 4, none⟩ = some (.int .u64 0) := (blk_cell BK204.out 4).trans rfl; have hfz15_0 := blk_frozen BK204.out 0; have hfz15_1 := blk_frozen BK204.out 1; have hfz15_2 := blk_frozen BK204.out 2; have hfz15_3 := blk_frozen BK204.out 3; have hfz15_4 := blk_frozen BK204.out 4))
    refine bodyPost_ret (results_ctt rfl _ _ gb204 30 #[.int .i64 t214, .int .i64 t215, .string t216, .int .i64 t217, .int .u64 t218] (0, 0) _ rfl (by (with_reducible repeat first | apply blk_drewN | apply blk_drew | apply blk_alloc); refine blk_put (cs := #[.int .i64 t214, .int .i64 t215, .string t216, .int .i64 t217, .int .u64 0]) ?_ 4 _ rfl; (with_reducible repeat first | apply blk_drewN | apply blk_drew | apply blk_alloc); refine blk_put (cs := #[.int .i64 t214, .int .i64 t215, .string t216, .int .i64 0, .int .u64 0]) ?_ 3 _ rfl; (with_reducible repeat first | apply blk_drewN | apply blk_drew | apply blk_alloc); refine blk_put (cs := #[.int .i64 t214, .int .i64 t215, .string (⟨#[]⟩ : ByteArray), .int .i64 0, .int .u64 0]) ?_ 2 _ rfl; (with_reducible repeat first | apply blk_drewN | apply blk_drew | apply blk_alloc); refine blk_put (cs := #[.int .i64 t214, .int .i64 0, .string (⟨#[]⟩ : ByteArray), .int .i64 0, .int .u64 0]) ?_ 1 _ rfl; (with_reducible repeat first | apply blk_drewN | apply blk_drew | apply blk_alloc); refine blk_put (cs := #[.int .i64 0, .int .i64 0, .string (⟨#[]⟩ : ByteArray), .int .i64 0, .int .u64 0]) ?_ 0 _ rfl; (with_reducible repeat first | apply blk_drewN | apply blk_drew | apply blk_alloc); exact BK204.out) Tryd.underlying30 rfl (by kernel_rfl)) rfl ?_
    exact ⟨x49_27, x49_15⟩
   ·replace c11 := Bool.eq_false_iff.mpr c11
    subst c11
    rw [if_neg (show ¬ (false = true) by decide)] at H
    obtain ⟨t221, A160, H⟩ := Option.bind_eq_some_iff.mp H
    have A16 := Aside0.mk A160
    clear A160
    by_cases c17 : t221 = true
    ·subst c17
     rw [if_pos rfl] at H
     replace H := Option.bind_eq_some_iff.mp H
     obtain ⟨⟨t222, t223, t224, t225, t226, t227, t228⟩, A180, H⟩ := H
     replace H : (some (t222, t223, t224, t225, t226, t227, t228)) = some (r1, r2, r3, r4, r5, r6, r7) := H
     have A18 := Aside0.mk A180
     clear A180
     simp only [Option.some.injEq, Prod.mk.injEq] at H
     obtain ⟨rfl, rfl, rfl, rfl, rfl, rfl, rfl⟩ := H
     go_enter Tryd.func20, Tryd.ntmps20
     go_wp2_with (first | ((with_reducible refine gate_dst (N := 2) rfl ?_); refine box_event ?hg (N := 2) ?hd (cs := #[.int .i64 0, .int .i64 0, .string (⟨#[]⟩ : ByteArray), .int .i64 0, .int .u64 0]) (t := 30) ?hr ?_; (case hd => rfl); (case hg => rfl); (case hr => first | (go_simp; done) | (go_simp; rfl)); intro gb204 hg w19 hbox hb; have n0_ := Aside0.mk (below_step x49_17 hb); have n1_ := Aside0.mk (hbox); have n2_ := Aside0.mk ((by rw [hg]; exact (below_size x49_17) : w.heap.size ≤ gb204)); have n3_ := Aside0.mk ((by rw [hg]; exact (below_size x49_17) : w.heap.size ≤ gb204)); clear HB; have HB := n0_; have BK204 := n1_; have GW204 := n2_; have GE204 := n3_; clear n0_ n1_ n2_ n3_; clear hb hbox hg; have p3 : 0 ≤ (0 : Int) := (by omega); have q3 : 0 < a0.size := (by have : (0 : Int) < (a0.size : Int) := of_decide_eq_true x49_31; omega); have hx3 : ∀ h : 0 < a0.size, ((a0[0]'h).toNat : Int) = bt a0 0 := bt_at a0 0; clear p3; have qi3 : (0 < (a0.size : Int)) = True := eq_true (of_decide_eq_true x49_31); replace q3 := eq_true q3) | ((with_reducible refine gate_callee (f := 35) rfl ?_); refine goesL_ (some 10) rfl rfl Tryd.func35 (by kernel_rfl) rfl #[.int .u8 (bt a0 0)] rfl x49_16 ?_; (with_reducible refine (lex_lower.calls (bt a0 0) false _ A4.out).mono ?_); rintro e w' ⟨rfl, ⟨nd, rfl⟩⟩; refine ⟨_, rfl, ?_⟩; (try (rw [drewN_self w19]; generalize hq_ : World.drewN w19 _ = w19; have n0_ : Aside0 (w19.heap[gb204]? = some (.cells #[.int .i64 0, .int .i64 0, .string (⟨#[]⟩ : ByteArray), .int .i64 0, .int .u64 0] 30 (0, 0))) := ⟨x49_20⟩; have n1_ : Aside0 (Below w.heap.size w w19) := ⟨x49_7⟩; clear BK204 HB hq_; have BK204 := n0_; have HB := n1_; clear n0_ n1_))) | ((with_reducible refine gate_callee (f := 37) rfl ?_); refine goesL_ (some 18) rfl rfl Tryd.func37 (by kernel_rfl) rfl #[.string a0, .string (⟨#[48, 120]⟩ : ByteArray)] rfl x49_16 ?_; (with_reducible refine (strings_HasPrefix.calls a0 (⟨#[48, 120]⟩ : ByteArray) false _ A10.out).mono ?_); rintro e w' ⟨rfl, ⟨nd, rfl⟩⟩; refine ⟨_, rfl, ?_⟩; (try (rw [drewN_self w19]; generalize hq_ : World.drewN w19 _ = w19; have n0_ : Aside0 (w19.heap[gb204]? = some (.cells #[.int .i64 0, .int .i64 0, .string (⟨#[]⟩ : ByteArray), .int .i64 0, .int .u64 0] 30 (0, 0))) := ⟨x49_20⟩; have n1_ : Aside0 (Below w.heap.size w w19) := ⟨x49_7⟩; clear BK204 HB hq_; have BK204 := n0_; have HB := n1_; clear n0_ n1_))) | ((with_reducible refine gate_callee (f := 39) rfl ?_); refine goesL_ (some 26) rfl rfl Tryd.func39 (by kernel_rfl) rfl #[.int .u8 (bt a0 0)] rfl x49_16 ?_; (with_reducible refine (lex_digit.calls (bt a0 0) true _ A16.out).mono ?_); rintro e w' ⟨rfl, ⟨nd, rfl⟩⟩; refine ⟨_, rfl, ?_⟩; (try (rw [drewN_self w19]; generalize hq_ : World.drewN w19 _ = w19; have n0_ : Aside0 (w19.heap[gb204]? = some (.cells #[.int .i64 0, .int .i64 0, .string (⟨#[]⟩ : ByteArray), .int .i64 0, .int .u64 0] 30 (0, 0))) := ⟨x49_20⟩; have n1_ : Aside0 (Below w.heap.size w w19) := ⟨x49_7⟩; clear BK204 HB hq_; have BK204 := n0_; have HB := n1_; clear n0_ n1_))) | ((with_reducible refine gate_callee (f := 40) rfl ?_); refine goesL_ (some 28) rfl rfl Tryd.func40 (by kernel_rfl) rfl #[.string a0] rfl x49_16 ?_; (with_reducible refine (lex_whole.calls (hG := x49_4) a0 t222 t223 t224 t225 t226 t227 t228 _ A18.out).mono ?_); rintro e w20 ⟨rfl, hb⟩; refine ⟨_, rfl, ?_⟩; have n0_ := Aside0.mk (blk_below (g := gb204) (o := .cells #[.int .i64 0, .int .i64 0, .string (⟨#[]⟩ : ByteArray), .int .i64 0, .int .u64 0] 30 (0, 0)) x49_25 hb); have n1_ := Aside0.mk (below_step x49_15 hb); clear BK204; clear HB; have BK204 := n0_; have HB := n1_; clear n0_ n1_; have hcz21_0 : w20.cell? ⟨gb204, 0, none⟩ = some (.int .i64 0) := (blk_cell BK204.out 0).trans rfl; have hcz21_1 : w20.cell? ⟨gb204, 1, none⟩ = some (.int .i64 0) := (blk_cell BK204.out 1).trans rfl; have hcz21_2 : w20.cell? ⟨gb204, 2, none⟩ = some (.string (⟨#[]⟩ : ByteArray)) := (blk_cell BK204.out 2).trans rfl; have hcz21_3 : w20.cell? ⟨gb204, 3, none⟩ = some (.int .i64 0) := (blk_cell BK204.out 3).trans rfl; have hcz21_4 : w20.cell? ⟨gb204, 4, none⟩ = some (.int .u64 0) := (blk_cell BK204.out 4).trans rfl; have hfz21_0 := blk_frozen BK204.out 0; have hfz21_1 := blk_frozen BK204.out 1; have hfz21_2 := blk_frozen BK204.out 2; have hfz21_3 := blk_frozen BK204.out 3; have hfz21_4 := blk_frozen BK204.out 4))
     refine bodyPost_ret (results_ctt rfl _ _ gb204 30 #[.int .i64 t222, .int .i64 t223, .string t224, .int .i64 t225, .int .u64 t226] (0, 0) _ rfl (by (with_reducible repeat first | apply blk_drewN | apply blk_drew | apply blk_alloc); refine blk_put (cs := #[.int .i64 t222, .int .i64 t223, .string t224, .int .i64 t225, .int .u64 0]) ?_ 4 _ rfl; (with_reducible repeat first | apply blk_drewN | apply blk_drew | apply blk_alloc); refine blk_put (cs := #[.int .i64 t222, .int .i64 t223, .string t224, .int .i64 0, .int .u64 0]) ?_ 3 _ rfl; (with_reducible repeat first | apply blk_drewN | apply blk_drew | apply blk_alloc); refine blk_put (cs := #[.int .i64 t222, .int .i64 t223, .string (⟨#[]⟩ : ByteArray), .int .i64 0, .int .u64 0]) ?_ 2 _ rfl; (with_reducible repeat first | apply blk_drewN | apply blk_drew | apply blk_alloc); refine blk_put (cs := #[.int .i64 t222, .int .i64 0, .string (⟨#[]⟩ : ByteArray), .int .i64 0, .int .u64 0]) ?_ 1 _ rfl; (with_reducible repeat first | apply blk_drewN | apply blk_drew | apply blk_alloc); refine blk_put (cs := #[.int .i64 0, .int .i64 0, .string (⟨#[]⟩ : ByteArray), .int .i64 0, .int .u64 0]) ?_ 0 _ rfl; (with_reducible repeat first | apply blk_drewN | apply blk_drew | apply blk_alloc); exact BK204.out) Tryd.underlying30 rfl (by kernel_rfl)) rfl ?_
     exact ⟨x49_27, x49_15⟩
    ·replace c17 := Bool.eq_false_iff.mpr c17
     subst c17
     rw [if_neg (show ¬ (false = true) by decide)] at H
     by_cases c22 : (bt a0 0) = 34
     ·rw [if_pos c22] at H
      have c22b0 := beq_iff_eq.mpr c22
      have c22b1 := bne_eq_false_iff_eq.mpr c22
      clear c22
      replace H := Option.bind_eq_some_iff.mp H
      obtain ⟨⟨t229, t230, t231, t232, t233, t234, t235⟩, A230, H⟩ := H
      replace H : (some (t229, t230, t231, t232, t233, t234, t235)) = some (r1, r2, r3, r4, r5, r6, r7) := H
      have A23 := Aside0.mk A230
      clear A230
      simp only [Option.some.injEq, Prod.mk.injEq] at H
      obtain ⟨rfl, rfl, rfl, rfl, rfl, rfl, rfl⟩ := H
      go_enter Tryd.func20, Tryd.ntmps20
      go_wp2_with (first | ((with_reducible refine gate_dst (N := 2) rfl ?_); refine box_event ?hg (N := 2) ?hd (cs := #[.int .i64 0, .int .i64 0, .string (⟨#[]⟩ : ByteArray), .int .i64 0, .int .u64 0]) (t := 30) ?hr ?_; (case hd => rfl); (case hg => rfl); (case hr => first | (go_simp; done) | (go_simp; rfl)); intro gb204 hg w24 hbox hb; have n0_ := Aside0.mk (below_step x49_17 hb); have n1_ := Aside0.mk (hbox); have n2_ := Aside0.mk ((by rw [hg]; exact (below_size x49_17) : w.heap.size ≤ gb204)); have n3_ := Aside0.mk ((by rw [hg]; exact (below_size x49_17) : w.heap.size ≤ gb204)); clear HB; have HB := n0_; have BK204 := n1_; have GW204 := n2_; have GE204 := n3_; clear n0_ n1_ n2_ n3_; clear hb hbox hg; have p3 : 0 ≤ (0 : Int) := (by omega); have q3 : 0 < a0.size := (by have : (0 : Int) < (a0.size : Int) := of_decide_eq_true x49_31; omega); have hx3 : ∀ h : 0 < a0.size, ((a0[0]'h).toNat : Int) = bt a0 0 := bt_at a0 0; clear p3; have qi3 : (0 < (a0.size : Int)) = True := eq_true (of_decide_eq_true x49_31); replace q3 := eq_true q3) | ((with_reducible refine gate_callee (f := 35) rfl ?_); refine goesL_ (some 10) rfl rfl Tryd.func35 (by kernel_rfl) rfl #[.int .u8 (bt a0 0)] rfl x49_16 ?_; (with_reducible refine (lex_lower.calls (bt a0 0) false _ A4.out).mono ?_); rintro e w' ⟨rfl, ⟨nd, rfl⟩⟩; refine ⟨_, rfl, ?_⟩; (try (rw [drewN_self w24]; generalize hq_ : World.drewN w24 _ = w24; have n0_ : Aside0 (w24.heap[gb204]? = some (.cells #[.int .i64 0, .int .i64 0, .string (⟨#[]⟩ : ByteArray), .int .i64 0, .int .u64 0] 30 (0, 0))) := ⟨x49_20⟩; have n1_ : Aside0 (Below w.heap.size w w24) := ⟨x49_7⟩; clear BK204 HB hq_; have BK204 := n0_; have HB := n1_; clear n0_ n1_))) | ((with_reducible refine gate_callee (f := 37) rfl ?_); refine goesL_ (some 18) rfl rfl Tryd.func37 (by kernel_rfl) rfl #[.string a0, .string (⟨#[48, 120]⟩ : ByteArray)] rfl x49_16 ?_; (with_reducible refine (strings_HasPrefix.calls a0 (⟨#[48, 120]⟩ : ByteArray) false _ A10.out).mono ?_); rintro e w' ⟨rfl, ⟨nd, rfl⟩⟩; refine ⟨_, rfl, ?_⟩; (try (rw [drewN_self w24]; generalize hq_ : World.drewN w24 _ = w24; have n0_ : Aside0 (w24.heap[gb204]? = some (.cells #[.int .i64 0, .int .i64 0, .string (⟨#[]⟩ : ByteArray), .int .i64 0, .int .u64 0] 30 (0, 0))) := ⟨x49_20⟩; have n1_ : Aside0 (Below w.heap.size w w24) := ⟨x49_7⟩; clear BK204 HB hq_; have BK204 := n0_; have HB := n1_; clear n0_ n1_))) | ((with_reducible refine gate_callee (f := 39) rfl ?_); refine goesL_ (some 26) rfl rfl Tryd.func39 (by kernel_rfl) rfl #[.int .u8 (bt a0 0)] rfl x49_16 ?_; (with_reducible refine (lex_digit.calls (bt a0 0) false _ A16.out).mono ?_); rintro e w' ⟨rfl, ⟨nd, rfl⟩⟩; refine ⟨_, rfl, ?_⟩; (try (rw [drewN_self w24]; generalize hq_ : World.drewN w24 _ = w24; have n0_ : Aside0 (w24.heap[gb204]? = some (.cells #[.int .i64 0, .int .i64 0, .string (⟨#[]⟩ : ByteArray), .int .i64 0, .int .u64 0] 30 (0, 0))) := ⟨x49_20⟩; have n1_ : Aside0 (Below w.heap.size w w24) := ⟨x49_7⟩; clear BK204 HB hq_; have BK204 := n0_; have HB := n1_; clear n0_ n1_))) | ((with_reducible refine gate_callee (f := 41) rfl ?_); refine goesL_ (some 36) rfl rfl Tryd.func41 (by kernel_rfl) rfl #[.string a0] rfl x49_16 ?_; (with_reducible refine (lex_quoted.calls k a0 t229 t230 t231 t232 t233 t234 t235 _ A23.out).mono ?_); rintro e w25 ⟨rfl, hb⟩; refine ⟨_, rfl, ?_⟩; have n0_ := Aside0.mk (blk_below (g := gb204) (o := .cells #[.int .i64 0, .int .i64 0, .string (⟨#[]⟩ : ByteArray), .int .i64 0, .int .u64 0] 30 (0, 0)) x49_25 hb); have n1_ := Aside0.mk (below_step x49_15 hb); clear BK204; clear HB; have BK204 := n0_; have HB := n1_; clear n0_ n1_; have hcz26_0 : w25.cell? ⟨gb204, 0, none⟩ = some (.int .i64 0) := (blk_cell BK204.out 0).trans rfl; have hcz26_1 : w25.cell? ⟨gb204, 1, none⟩ = some (.int .i64 0) := (blk_cell BK204.out 1).trans rfl; have hcz26_2 : w25.cell? ⟨gb204, 2, none⟩ = some (.string (⟨#[]⟩ : ByteArray)) := (blk_cell BK204.out 2).trans rfl; have hcz26_3 : w25.cell? ⟨gb204, 3, none⟩ = some (.int .i64 0) := (blk_cell BK204.out 3).trans rfl; have hcz26_4 : w25.cell? ⟨gb204, 4, none⟩ = some (.int .u64 0) := (blk_cell BK204.out 4).trans rfl; have hfz26_0 := blk_frozen BK204.out 0; have hfz26_1 := blk_frozen BK204.out 1; have hfz26_2 := blk_frozen BK204.out 2; have hfz26_3 := blk_frozen BK204.out 3; have hfz26_4 := blk_frozen BK204.out 4))
      refine bodyPost_ret (results_ctt rfl _ _ gb204 30 #[.int .i64 t229, .int .i64 t230, .string t231, .int .i64 t232, .int .u64 t233] (0, 0) _ rfl (by (with_reducible repeat first | apply blk_drewN | apply blk_drew | apply blk_alloc); refine blk_put (cs := #[.int .i64 t229, .int .i64 t230, .string t231, .int .i64 t232, .int .u64 0]) ?_ 4 _ rfl; (with_reducible repeat first | apply blk_drewN | apply blk_drew | apply blk_alloc); refine blk_put (cs := #[.int .i64 t229, .int .i64 t230, .string t231, .int .i64 0, .int .u64 0]) ?_ 3 _ rfl; (with_reducible repeat first | apply blk_drewN | apply blk_drew | apply blk_alloc); refine blk_put (cs := #[.int .i64 t229, .int .i64 t230, .string (⟨#[]⟩ : ByteArray), .int .i64 0, .int .u64 0]) ?_ 2 _ rfl; (with_reducible repeat first | apply blk_drewN | apply blk_drew | apply blk_alloc); refine blk_put (cs := #[.int .i64 t229, .int .i64 0, .string (⟨#[]⟩ : ByteArray), .int .i64 0, .int .u64 0]) ?_ 1 _ rfl; (with_reducible repeat first | apply blk_drewN | apply blk_drew | apply blk_alloc); refine blk_put (cs := #[.int .i64 0, .int .i64 0, .string (⟨#[]⟩ : ByteArray), .int .i64 0, .int .u64 0]) ?_ 0 _ rfl; (with_reducible repeat first | apply blk_drewN | apply blk_drew | apply blk_alloc); exact BK204.out) Tryd.underlying30 rfl (by kernel_rfl)) rfl ?_
      exact ⟨x49_27, x49_15⟩
     ·rw [if_neg c22] at H
      have c22b0 := beq_eq_false_iff_ne.mpr c22
      have c22b1 := bne_iff_ne.mpr c22
      replace H := Option.bind_eq_some_iff.mp H
      obtain ⟨⟨t236, t237, t238, t239, t240, t241, t242⟩, A270, H⟩ := H
      replace H : (some (t236, t237, t238, t239, t240, t241, t242)) = some (r1, r2, r3, r4, r5, r6, r7) := H
      have A27 := Aside0.mk A270
      clear A270
      simp only [Option.some.injEq, Prod.mk.injEq] at H
      obtain ⟨rfl, rfl, rfl, rfl, rfl, rfl, rfl⟩ := H
      go_enter Tryd.func20, Tryd.ntmps20
      go_wp2_with (first | ((with_reducible refine gate_dst (N := 2) rfl ?_); refine box_event ?hg (N := 2) ?hd (cs := #[.int .i64 0, .int .i64 0, .string (⟨#[]⟩ : ByteArray), .int .i64 0, .int .u64 0]) (t := 30) ?hr ?_; (case hd => rfl); (case hg => rfl); (case hr => first | (go_simp; done) | (go_simp; rfl)); intro gb204 hg w28 hbox hb; have n0_ := Aside0.mk (below_step x49_17 hb); have n1_ := Aside0.mk (hbox); have n2_ := Aside0.mk ((by rw [hg]; exact (below_size x49_17) : w.heap.size ≤ gb204)); have n3_ := Aside0.mk ((by rw [hg]; exact (below_size x49_17) : w.heap.size ≤ gb204)); clear HB; have HB := n0_; have BK204 := n1_; have GW204 := n2_; have GE204 := n3_; clear n0_ n1_ n2_ n3_; clear hb hbox hg; have p3 : 0 ≤ (0 : Int) := (by omega); have q3 : 0 < a0.size := (by have : (0 : Int) < (a0.size : Int) := of_decide_eq_true x49_31; omega); have hx3 : ∀ h : 0 < a0.size, ((a0[0]'h).toNat : Int) = bt a0 0 := bt_at a0 0; clear p3; have qi3 : (0 < (a0.size : Int)) = True := eq_true (of_decide_eq_true x49_31); replace q3 := eq_true q3) | ((with_reducible refine gate_callee (f := 35) rfl ?_); refine goesL_ (some 10) rfl rfl Tryd.func35 (by kernel_rfl) rfl #[.int .u8 (bt a0 0)] rfl x49_16 ?_; (with_reducible refine (lex_lower.calls (bt a0 0) false _ A4.out).mono ?_); rintro e w' ⟨rfl, ⟨nd, rfl⟩⟩; refine ⟨_, rfl, ?_⟩; (try (rw [drewN_self w28]; generalize hq_ : World.drewN w28 _ = w28; have n0_ : Aside0 (w28.heap[gb204]? = some (.cells #[.int .i64 0, .int .i64 0, .string (⟨#[]⟩ : ByteArray), .int .i64 0, .int .u64 0] 30 (0, 0))) := ⟨x49_20⟩; have n1_ : Aside0 (Below w.heap.size w w28) := ⟨x49_7⟩; clear BK204 HB hq_; have BK204 := n0_; have HB := n1_; clear n0_ n1_))) | ((with_reducible refine gate_callee (f := 37) rfl ?_); refine goesL_ (some 18) rfl rfl Tryd.func37 (by kernel_rfl) rfl #[.string a0, .string (⟨#[48, 120]⟩ : ByteArray)] rfl x49_16 ?_; (with_reducible refine (strings_HasPrefix.calls a0 (⟨#[48, 120]⟩ : ByteArray) false _ A10.out).mono ?_); rintro e w' ⟨rfl, ⟨nd, rfl⟩⟩; refine ⟨_, rfl, ?_⟩; (try (rw [drewN_self w28]; generalize hq_ : World.drewN w28 _ = w28; have n0_ : Aside0 (w28.heap[gb204]? = some (.cells #[.int .i64 0, .int .i64 0, .string (⟨#[]⟩ : ByteArray), .int .i64 0, .int .u64 0] 30 (0, 0))) := ⟨x49_20⟩; have n1_ : Aside0 (Below w.heap.size w w28) := ⟨x49_7⟩; clear BK204 HB hq_; have BK204 := n0_; have HB := n1_; clear n0_ n1_))) | ((with_reducible refine gate_callee (f := 39) rfl ?_); refine goesL_ (some 26) rfl rfl Tryd.func39 (by kernel_rfl) rfl #[.int .u8 (bt a0 0)] rfl x49_16 ?_; (with_reducible refine (lex_digit.calls (bt a0 0) false _ A16.out).mono ?_); rintro e w' ⟨rfl, ⟨nd, rfl⟩⟩; refine ⟨_, rfl, ?_⟩; (try (rw [drewN_self w28]; generalize hq_ : World.drewN w28 _ = w28; have n0_ : Aside0 (w28.heap[gb204]? = some (.cells #[.int .i64 0, .int .i64 0, .string (⟨#[]⟩ : ByteArray), .int .i64 0, .int .u64 0] 30 (0, 0))) := ⟨x49_20⟩; have n1_ : Aside0 (Below w.heap.size w w28) := ⟨x49_7⟩; clear BK204 HB hq_; have BK204 := n0_; have HB := n1_; clear n0_ n1_))) | ((with_reducible refine gate_callee (f := 42) rfl ?_); refine goesL_ (some 41) rfl rfl Tryd.func42 (by kernel_rfl) rfl #[.string a0] rfl x49_16 ?_; (with_reducible refine (lex_mark.calls k a0 t236 t237 t238 t239 t240 t241 t242 _ A27.out).mono ?_); rintro e w29 ⟨rfl, hb⟩; refine ⟨_, rfl, ?_⟩; have n0_ := Aside0.mk (blk_below (g := gb204) (o := .cells #[.int .i64 0, .int .i64 0, .string (⟨#[]⟩ : ByteArray), .int .i64 0, .int .u64 0] 30 (0, 0)) x49_25 hb); have n1_ := Aside0.mk (below_step x49_15 hb); clear BK204; clear HB; have BK204 := n0_; have HB := n1_; clear n0_ n1_; have hcz30_0 : w29.cell? ⟨gb204, 0, none⟩ = some (.int .i64 0) := (blk_cell BK204.out 0).trans rfl; have hcz30_1 : w29.cell? ⟨gb204, 1, none⟩ = some (.int .i64 0) := (blk_cell BK204.out 1).trans rfl; have hcz30_2 : w29.cell? ⟨gb204, 2, none⟩ = some (.string (⟨#[]⟩ : ByteArray)) := (blk_cell BK204.out 2).trans rfl; have hcz30_3 : w29.cell? ⟨gb204, 3, none⟩ = some (.int .i64 0) := (blk_cell BK204.out 3).trans rfl; have hcz30_4 : w29.cell? ⟨gb204, 4, none⟩ = some (.int .u64 0) := (blk_cell BK204.out 4).trans rfl; have hfz30_0 := blk_frozen BK204.out 0; have hfz30_1 := blk_frozen BK204.out 1; have hfz30_2 := blk_frozen BK204.out 2; have hfz30_3 := blk_frozen BK204.out 3; have hfz30_4 := blk_frozen BK204.out 4))
      refine bodyPost_ret (results_ctt rfl _ _ gb204 30 #[.int .i64 t236, .int .i64 t237, .string t238, .int .i64 t239, .int .u64 t240] (0, 0) _ rfl (by (with_reducible repeat first | apply blk_drewN | apply blk_drew | apply blk_alloc); refine blk_put (cs := #[.int .i64 t236, .int .i64 t237, .string t238, .int .i64 t239, .int .u64 0]) ?_ 4 _ rfl; (with_reducible repeat first | apply blk_drewN | apply blk_drew | apply blk_alloc); refine blk_put (cs := #[.int .i64 t236, .int .i64 t237, .string t238, .int .i64 0, .int .u64 0]) ?_ 3 _ rfl; (with_reducible repeat first | apply blk_drewN | apply blk_drew | apply blk_alloc); refine blk_put (cs := #[.int .i64 t236, .int .i64 t237, .string (⟨#[]⟩ : ByteArray), .int .i64 0, .int .u64 0]) ?_ 2 _ rfl; (with_reducible repeat first | apply blk_drewN | apply blk_drew | apply blk_alloc); refine blk_put (cs := #[.int .i64 t236, .int .i64 0, .string (⟨#[]⟩ : ByteArray), .int .i64 0, .int .u64 0]) ?_ 1 _ rfl; (with_reducible repeat first | apply blk_drewN | apply blk_drew | apply blk_alloc); refine blk_put (cs := #[.int .i64 0, .int .i64 0, .string (⟨#[]⟩ : ByteArray), .int .i64 0, .int .u64 0]) ?_ 0 _ rfl; (with_reducible repeat first | apply blk_drewN | apply blk_drew | apply blk_alloc); exact BK204.out) Tryd.underlying30 rfl (by kernel_rfl)) rfl ?_
      exact ⟨x49_27, x49_15⟩
 ·rw [if_neg c2] at H
  exact absurd H (by simp)
end Go.Proofs.YtjolkombhdibcaaDoor.Print
end
section
namespace Go.Proofs.YtjolkombhdibcaaDoor.Sp
open Go.RowKit Go.Proofs.YtjolkombhdibcaaDoorW.PrintWords Go.Proofs.YtjolkombhdibcaaDoorW.PrintMore Go.Proofs.YtjolkombhdibcaaDoor.Given Go.Proofs.YtjolkombhdibcaaDoor.Print
set_option linter.unusedVariables false
set_option linter.unusedSimpArgs false
theorem whole_ev (l : List UInt8) (hl : l.length ≤ 1000000) : Ev (fun k => lex_whole.f (bs l)) (wholeTok (l.takeWhile isDig)) := by
  unfold lex_whole.f wholeTok
  have hr := run_f l 0 8800000039 (by omega) hl
  rw [List.drop_zero] at hr
  have hle := runN_le isDig l
  have htk := take_run isDig l
  have htl : (l.takeWhile isDig).length = Given.runN isDig l := rfl
  refine Ev.bind0 hr ?_
  have hrun : runF 8800000039 = isDig := rfl
  rw [hrun]
  refine Ev.yes (by omega) (Ev.yes (by rw [bs_size]; omega) ?_)
  rw [Int.toNat_natCast, bs_take, htk]
  refine Ev.bind0 (parseInt_f _ (by omega)) ?_
  by_cases h : (parseIntT (l.takeWhile isDig)).2 = 0
  · simp only [if_pos h]
    refine Ev.ret ?_
    unfold tok; rw [htl]
  · simp only [if_neg h]
    exact Ev.ret rfl
def expN (l : List UInt8) : Nat := match l with
  | 43 :: r => 1 + Given.runN isDig r
  | 45 :: r => 1 + Given.runN isDig r
  | r => Given.runN isDig r
def tailN (l : List UInt8) : Nat := match l with
  | 112 :: r => 1 + expN r
  | _ => 0
def dblN (l : List UInt8) : Nat := 2 + Given.runN dotB (l.drop 2) + tailN (l.drop (2 + Given.runN dotB (l.drop 2)))
theorem dbl_fin (l : List UInt8) (n : Nat) (hn : n ≤ l.length) (hl : l.length ≤ 1000000) :
    Ev (fun k => if 0 ≤ (n : Int) then (if (n : Int) ≤ ((bs l).size : Int) then ((numtext_ParseFloat.f k ((bs l).extract 0 (n : Int).toNat)).bind fun bt127 => (if bt127.2 = 0 then (some ((5, 0, (⟨#[]⟩ : ByteArray), 0, bt127.1, (n : Int), 0) : T7)) else (some (0, 0, (⟨#[]⟩ : ByteArray), 0, 0, 0, 62)))) else none) else none) (floatTok (l.take n)) := by
  refine Ev.yes (by omega) (Ev.yes (by rw [bs_size]; omega) ?_)
  rw [Int.toNat_natCast, bs_take]
  have hlen : (l.take n).length = n := by rw [List.length_take]; omega
  refine Ev.bind (parseFloat_ev _ (by omega)) ?_
  unfold floatTok
  by_cases h : (pfS (l.take n)).2 = 0
  · simp only [if_pos h]
    refine Ev.ret ?_
    unfold tok; rw [hlen]
  · simp only [if_neg h]
    exact Ev.ret rfl
theorem dbl_j2 (l : List UInt8) (n : Nat) (hn : n ≤ l.length) (hl : l.length ≤ 1000000) : Ev (fun k => lex_double.j2 k (bs l) (n : Int)) (floatTok (l.take (n + Given.runN isDig (l.drop n)))) := by
  have hle := runN_le isDig (l.drop n)
  rw [List.length_drop] at hle
  refine Ev.step (fun k => by rw [lex_double.j2]) ?_
  refine Ev.bind0 (run_f l n 8800000039 hn hl) ?_
  have hrun : runF 8800000039 = isDig := rfl
  rw [hrun, w64 (by omega) (by omega), show (n : Int) + ((Given.runN isDig (l.drop n) : Nat) : Int) = ((n + Given.runN isDig (l.drop n) : Nat) : Int) by omega]
  exact dbl_fin l _ (by omega) hl
theorem dbl_j1 (l : List UInt8) (n : Nat) (hn : n ≤ l.length) (hl : l.length ≤ 1000000) : Ev (fun k => lex_double.j1 k (bs l) (n : Int) (decide ((l.drop n).head? = some 43 ∨ (l.drop n).head? = some 45))) (floatTok (l.take (n + expN (l.drop n)))) := by
  refine Ev.step (fun k => by rw [lex_double.j1]) ?_
  have step : ∀ c r, l.drop n = c :: r → (c = 43 ∨ c = 45) → Ev (fun k => if decide ((l.drop n).head? = some 43 ∨ (l.drop n).head? = some 45) = true then (lex_double.j2 k (bs l) (wrap64 ((n : Int) + 1))) else (lex_double.j2 k (bs l) (n : Int))) (floatTok (l.take (n + expN (l.drop n)))) := by
    intro c r h hc
    obtain ⟨h1, h2, h3⟩ := drop_cons h
    have e1 : expN (l.drop n) = 1 + Given.runN isDig (l.drop (n + 1)) := by
      rw [h, h3]
      rcases hc with rfl | rfl <;> rfl
    rw [e1]
    refine Ev.yes (decide_eq_true (by rw [h]; rcases hc with rfl | rfl <;> simp)) ?_
    rw [w64 (by omega) (by omega)]
    have := dbl_j2 l (n + 1) (by omega) hl
    rw [show n + 1 + Given.runN isDig (l.drop (n + 1)) = n + (1 + Given.runN isDig (l.drop (n + 1))) by omega] at this
    exact this
  have other : ¬ ((l.drop n).head? = some 43 ∨ (l.drop n).head? = some 45) → Ev (fun k => if decide ((l.drop n).head? = some 43 ∨ (l.drop n).head? = some 45) = true then (lex_double.j2 k (bs l) (wrap64 ((n : Int) + 1))) else (lex_double.j2 k (bs l) (n : Int))) (floatTok (l.take (n + expN (l.drop n)))) := by
    intro h
    have e1 : expN (l.drop n) = Given.runN isDig (l.drop n) := by
      generalize l.drop n = q at h
      unfold expN
      split
      · exact absurd (.inl rfl) h
      · exact absurd (.inr rfl) h
      · rfl
    rw [e1]
    exact Ev.no (by simpa using h) (dbl_j2 l n hn hl)
  cases h : l.drop n with
  | nil => rw [← h]; exact other (by rw [h]; simp)
  | cons c r =>
    rw [← h]
    by_cases hc : c = 43 ∨ c = 45
    · exact step c r h hc
    · exact other (by rw [h]; simpa using hc)
theorem dbl_j0 (l : List UInt8) (n : Nat) (hn : n ≤ l.length) (hl : l.length ≤ 1000000) : Ev (fun k => lex_double.j0 k (bs l) (n : Int) (decide ((l.drop n).head? = some 112))) (floatTok (l.take (n + tailN (l.drop n)))) := by
  refine Ev.step (fun k => by rw [lex_double.j0]) ?_
  by_cases hp : (l.drop n).head? = some 112
  · cases h : l.drop n with
    | nil => rw [h] at hp; simp at hp
    | cons c r =>
      rw [h] at hp
      have hc : c = 112 := by simpa using hp
      subst hc
      obtain ⟨h1, h2, h3⟩ := drop_cons h
      have e1 : n + tailN (112 :: r) = n + 1 + expN (l.drop (n + 1)) := by
        rw [h3]
        show n + (1 + expN r) = _
        omega
      rw [e1]
      have hj := dbl_j1 l (n + 1) (by omega) hl
      refine Ev.yes (by simp) ?_
      rw [w64 (x := (n : Int) + 1) (by omega) (by omega), bs_size]
      by_cases hlt : n + 1 < l.length
      · refine Ev.yes (by omega) (Ev.yes (by omega) ?_)
        have hb : bt (bs l) ((n : Int) + 1) = ((l.getD (n + 1) 0).toNat : Int) := bt_bs l (n + 1)
        rw [hb]
        cases r with
        | nil => have := congrArg List.length h3; simp at this; omega
        | cons d q =>
          obtain ⟨g1, _, _⟩ := drop_cons h3
          rw [g1]
          rw [h3] at hj
          by_cases h43 : d = 43
          · subst h43
            rw [h3]
            exact Ev.yes rfl hj
          · refine Ev.no (fun e => h43 (u8_eq (n := 43) e (by decide))) ?_
            have e2 : decide ((d :: q).head? = some 43 ∨ (d :: q).head? = some 45) = ((d.toNat : Int) == 45) := by
              by_cases h45 : d = 45
              · subst h45; rfl
              · rw [decide_eq_false (by simp [h43, h45])]
                exact (beq_eq_false_iff_ne.2 (fun e => h45 (u8_eq (n := 45) e (by decide)))).symm
            rw [e2] at hj
            rw [h3]
            exact hj
      · refine Ev.no (by omega) ?_
        have hnil : l.drop (n + 1) = [] := List.drop_eq_nil_of_le (by omega)
        rw [hnil] at hj ⊢
        exact hj
  · have e1 : tailN (l.drop n) = 0 := by
      generalize l.drop n = q at hp
      unfold tailN
      split
      · exact absurd rfl hp
      · rfl
    rw [e1, Nat.add_zero]
    exact Ev.no (by simpa using hp) (dbl_fin l n hn hl)
theorem double_ev (l : List UInt8) (h2 : 2 ≤ l.length) (hl : l.length ≤ 1000000) : Ev (fun k => lex_double.f k (bs l)) (floatTok (l.take (dblN l))) := by
  unfold lex_double.f dblN
  have hle := runN_le dotB (l.drop 2)
  rw [List.length_drop] at hle
  refine Ev.bind0 (run_f l 2 8800000059 h2 hl) ?_
  have hrun : runF 8800000059 = dotB := rfl
  rw [hrun]
  generalize Given.runN dotB (l.drop 2) = m at hle
  rw [w64 (x := 2 + (m : Int)) (by omega) (by omega), show (2 : Int) + (m : Int) = ((2 + m : Nat) : Int) by omega, bs_size]
  have hj := dbl_j0 l (2 + m) (by omega) hl
  by_cases hlt : 2 + m < l.length
  · refine Ev.yes (by omega) (Ev.yes (by omega) ?_)
    rw [bt_bs]
    cases h : l.drop (2 + m) with
    | nil => have := congrArg List.length h; simp at this; omega
    | cons c r =>
      obtain ⟨g1, _, _⟩ := drop_cons h
      rw [g1]
      rw [h] at hj
      have e : decide ((c :: r).head? = some 112) = ((c.toNat : Int) == 112) := by
        by_cases hc : c = 112
        · subst hc; rfl
        · rw [decide_eq_false (by simp [hc])]
          exact (beq_eq_false_iff_ne.2 (fun e => hc (u8_eq (n := 112) e (by decide)))).symm
      rw [e] at hj
      exact hj
  · refine Ev.no (by omega) ?_
    have hnil : l.drop (2 + m) = [] := List.drop_eq_nil_of_le (by omega)
    rw [hnil] at hj ⊢
    exact hj
end Go.Proofs.YtjolkombhdibcaaDoor.Sp
end
section
namespace Go.Proofs.YtjolkombhdibcaaDoor.Sp
open Go.RowKit Go.Proofs.YtjolkombhdibcaaDoorW.PrintWords Go.Proofs.YtjolkombhdibcaaDoorW.PrintMore Go.Proofs.YtjolkombhdibcaaDoor.Given Go.Proofs.YtjolkombhdibcaaDoor.Print
set_option linter.unusedVariables false
set_option linter.unusedSimpArgs false
def markOf (ms : List (List UInt8)) (l : List UInt8) : T7 := match ms.find? (fun m => Lib.hasPrefix l m) with
  | some m => tok 3 m 0 0 m.length
  | none => bad 60
def markT (l : List UInt8) : T7 := markOf marksL l
theorem mark_l0 (l : List UInt8) (ws : List (List UInt8)) (hw : ws.length ≤ 1000) : ∀ (r p : List (List UInt8)), ws = p ++ r →
    Ev (fun k => lex_mark.l0 k (bs l) (ws.map bs) (ws.length : Int) (p.length : Int)) (markOf r l) := by
  intro r
  induction r with
  | nil =>
    intro p h
    rw [List.append_nil] at h
    subst h
    refine Ev.step (fun k => by rw [lex_mark.l0]) ?_
    exact Ev.no (by omega) (Ev.ret rfl)
  | cons c r ih =>
    intro p h
    have hlen : ws.length = p.length + (r.length + 1) := by rw [h]; simp
    have e1 : rdOf ByteArray.empty (ws.map bs) (p.length : Int) = bs c := by
      unfold rdOf
      rw [Int.toNat_natCast, h]
      simp [List.getD_eq_getElem?_getD]
    refine Ev.step (fun k => by rw [lex_mark.l0]) ?_
    refine Ev.yes (by omega) (Ev.yes (by omega) (Ev.yes (by rw [List.length_map]; omega) ?_))
    rw [e1]
    have hp : strings_HasPrefix.f (bs l) (bs c) = some (Lib.hasPrefix l c) := rfl
    refine Ev.bind0 hp ?_
    unfold markOf
    rw [List.find?_cons]
    by_cases hc : Lib.hasPrefix l c = true
    · rw [hc]
      refine Ev.yes rfl (Ev.ret ?_)
      unfold tok; rw [bs_size]
    · rw [Bool.eq_false_iff.2 hc]
      refine Ev.no (by simp) ?_
      rw [w64 (by omega) (by omega)]
      have h1 := ih (p ++ [c]) (by rw [h]; simp)
      have e2 : ((p ++ [c]).length : Int) = (p.length : Int) + 1 := by simp
      rw [e2] at h1
      exact h1
theorem mark_ev (l : List UInt8) : Ev (fun k => lex_mark.f k (bs l)) (markT l) := by
  unfold lex_mark.f
  have hm : lex_marks.f = some (marksL.map bs) := rfl
  refine Ev.bind0 hm ?_
  rw [List.length_map]
  exact mark_l0 l marksL (by decide) marksL [] rfl
def qS : List UInt8 → List UInt8 → Nat → T7
  | [], _, _ => bad 61
  | c :: r, b, n =>
    if c = 34 then tok 6 b 0 0 (n + 1)
    else if c = 92 then
      match r with
      | [] => bad 61
      | d :: r1 =>
        if d = 92 ∨ d = 34 then qS r1 (b ++ [d]) (n + 2)
        else if d = 110 then qS r1 (b ++ [10]) (n + 2)
        else if d = 120 then
          match r1 with
          | h1 :: h2 :: r2 =>
            match hexV h1, hexV h2 with
            | some x, some y => qS r2 (b ++ [UInt8.ofNat (16 * x + y)]) (n + 4)
            | _, _ => bad 61
          | _ => bad 61
        else bad 61
    else if 32 ≤ c.toNat ∧ c.toNat ≤ 126 then qS r (b ++ [c]) (n + 1)
    else bad 61
theorem qS_nil (b : List UInt8) (n : Nat) : qS [] b n = bad 61 := by rw [qS.eq_def]
theorem qS_cons (c : UInt8) (r b : List UInt8) (n : Nat) : qS (c :: r) b n =
    if c = 34 then tok 6 b 0 0 (n + 1)
    else if c = 92 then
      match r with
      | [] => bad 61
      | d :: r1 =>
        if d = 92 ∨ d = 34 then qS r1 (b ++ [d]) (n + 2)
        else if d = 110 then qS r1 (b ++ [10]) (n + 2)
        else if d = 120 then
          match r1 with
          | h1 :: h2 :: r2 =>
            match hexV h1, hexV h2 with
            | some x, some y => qS r2 (b ++ [UInt8.ofNat (16 * x + y)]) (n + 4)
            | _, _ => bad 61
          | _ => bad 61
        else bad 61
    else if 32 ≤ c.toNat ∧ c.toNat ≤ 126 then qS r (b ++ [c]) (n + 1)
    else bad 61 := by rw [qS.eq_def]
def un (b : List UInt8) : List Int := b.map fun c => (c.toNat : Int)
theorem un_snoc (b : List UInt8) (c : UInt8) : un b ++ [(c.toNat : Int)] = un (b ++ [c]) := by simp [un]
theorem un_len (b : List UInt8) : (un b).length = b.length := by simp [un]
theorem str_un (b : List UInt8) : strOfNums (un b) = bs b := by
  unfold strOfNums un
  rw [List.map_map]
  have : (fun n : Int => UInt8.ofNat n.toNat) ∘ (fun c : UInt8 => (c.toNat : Int)) = id := by
    funext c
    show UInt8.ofNat ((c.toNat : Int).toNat) = c
    rw [Int.toNat_natCast]
    exact UInt8.ofNat_toNat
  rw [this, List.map_id]
theorem snoc_le {b : List UInt8} {n : Nat} (h : b.length ≤ n) (d : UInt8) (k : Nat) (hk : 1 ≤ k) : (b ++ [d]).length ≤ n + k := by
  rw [List.length_append]
  exact Nat.add_le_add h hk
theorem digit_f (c : UInt8) : lex_digit.f (c.toNat : Int) = some (isDig c) := by
  unfold lex_digit.f isDig
  by_cases h : 48 ≤ c.toNat
  · rw [if_pos (by omega)]; congr 1; rw [decide_eq_decide]; omega
  · rw [if_neg (by omega), decide_eq_false (by omega)]
theorem hexDB (c : UInt8) : hexB c = (hexV c).isSome := by
  unfold hexB hexV isDig
  by_cases h : 48 ≤ c.toNat ∧ c.toNat ≤ 57
  · rw [if_pos h, decide_eq_true h]; rfl
  · rw [if_neg h, decide_eq_false h, Bool.false_or]
    by_cases h1 : 97 ≤ c.toNat ∧ c.toNat ≤ 102
    · rw [if_pos h1, decide_eq_true h1]; rfl
    · rw [if_neg h1, decide_eq_false h1]; rfl
theorem lhex_f (c : UInt8) : lex_hex.f (c.toNat : Int) = some ((hexV c).isSome) := by
  rw [← hexDB]
  unfold lex_hex.f hexB
  rw [digit_f]
  show (if isDig c = true then some true else _) = _
  by_cases h : isDig c = true
  · rw [if_pos h, h]; rfl
  · rw [if_neg h, Bool.eq_false_iff.2 h, Bool.false_or]
    by_cases h1 : 97 ≤ c.toNat
    · rw [if_pos (by omega)]; congr 1; rw [decide_eq_decide]; omega
    · rw [if_neg (by omega), decide_eq_false (by omega)]
theorem value_f {c : UInt8} {v : Nat} (h : hexV c = some v) : lex_value.f (c.toNat : Int) = some (v : Int) := by
  unfold lex_value.f
  rw [digit_f]
  unfold hexV at h
  by_cases h1 : 48 ≤ c.toNat ∧ c.toNat ≤ 57
  · rw [if_pos h1] at h
    cases h
    show (if isDig c = true then _ else _) = _
    rw [if_pos (by unfold isDig; exact decide_eq_true h1)]
    congr 1
    omega
  · rw [if_neg h1] at h
    by_cases h2 : 97 ≤ c.toNat ∧ c.toNat ≤ 102
    · rw [if_pos h2] at h
      cases h
      show (if isDig c = true then _ else _) = _
      rw [if_neg (by unfold isDig; simpa using h1)]
      congr 1
      omega
    · rw [if_neg h2] at h; cases h
theorem nib_or {x y : Nat} (hx : x < 16) (hy : y < 16) : Go.bits .or .u8 (((x : Int) * 16) % 256) (y : Int) = ((UInt8.ofNat (16 * x + y)).toNat : Int) := by
  have h : ∀ i j : Fin 16, Go.bits .or .u8 (((i.val : Int) * 16) % 256) (j.val : Int) = ((UInt8.ofNat (16 * i.val + j.val)).toNat : Int) := by decide +kernel
  exact h ⟨x, hx⟩ ⟨y, hy⟩
theorem q_j2no (l : ByteArray) (b : List Int) (n : Int) (r : ByteArray) : Ev (fun k => lex_quoted.j2 k l b n r true) (bad 61) := by
  refine Ev.step (fun k => by rw [lex_quoted.j2]) ?_
  exact Ev.yes rfl (Ev.ret rfl)
theorem q_j4no (l : ByteArray) (b : List Int) (n : Int) (r : ByteArray) : Ev (fun k => lex_quoted.j4 k l b n r false) (bad 61) := by
  refine Ev.step (fun k => by rw [lex_quoted.j4]) ?_
  exact Ev.no (by simp) (Ev.ret rfl)
set_option maxHeartbeats 1000000 in
theorem quoted_l0 (l : List UInt8) (hl : l.length ≤ 1000000) : ∀ (m : Nat) (r b : List UInt8) (n : Nat), r.length ≤ m → l.drop n = r → n ≤ l.length → b.length ≤ n →
    Ev (fun k => lex_quoted.l0 k (bs l) (un b) (n : Int)) (qS r b n) := by
  intro m
  induction m with
  | zero =>
    intro r b n hm h hn hb
    have : r = [] := List.eq_nil_of_length_eq_zero (by omega)
    subst this
    have : l.length ≤ n := by have := List.drop_eq_nil_iff.1 h; omega
    refine Ev.step (fun k => by rw [lex_quoted.l0]) ?_
    refine Ev.no (by rw [bs_size]; omega) (Ev.ret ?_)
    unfold qS; rfl
  | succ m ih =>
    intro r b n hm h hn hb
    cases r with
    | nil =>
      have : l.length ≤ n := by have := List.drop_eq_nil_iff.1 h; omega
      refine Ev.step (fun k => by rw [lex_quoted.l0]) ?_
      refine Ev.no (by rw [bs_size]; omega) (Ev.ret ?_)
      exact (qS_nil _ _).symm
    | cons c r =>
      obtain ⟨h1, h2, h3⟩ := drop_cons h
      have hrl : r.length = l.length - (n + 1) := by rw [← h3, List.length_drop]
      have hm' : r.length ≤ m := by simpa using hm
      have e1 : wrap64 ((n : Int) + 1) = ((n + 1 : Nat) : Int) := by rw [w64 (by omega) (by omega)]; rfl
      have e2 : (bs l).extract (n + 1) (bs l).size = bs r := by rw [bs_from, h3]
      refine Ev.step (fun k => by rw [lex_quoted.l0]) ?_
      rw [e1, Int.toNat_natCast, e2, bt_bs, h1]
      rw [bs_size]
      refine Ev.yes (by omega) (Ev.yes (by omega) (Ev.yes (by omega) (Ev.yes (by omega) ?_)))
      have hun := Aside0.mk (show (un b).length < 140737488355328 by rw [un_len]; omega)
      rw [qS_cons]
      by_cases h34 : c = 34
      · subst h34
        rw [if_pos rfl]
        refine Ev.yes rfl (Ev.ret ?_)
        rw [str_un]; rfl
      · rw [if_neg h34]
        refine Ev.no (fun e => h34 (u8_eq (n := 34) e (by decide))) ?_
        by_cases h92 : c = 92
        · subst h92
          rw [if_pos rfl]
          refine Ev.yes rfl ?_
          refine Ev.step (fun k => by rw [lex_quoted.j1]) ?_
          refine Ev.no (by simp) (Ev.yes rfl ?_)
          rw [bs_toList]
          cases r with
          | nil => exact q_j2no _ _ _ _
          | cons d r1 =>
            obtain ⟨g1, g2, g3⟩ := drop_cons h3
            have hr1 : r1.length = l.length - (n + 2) := by rw [← g3, List.length_drop]
            have e3 : wrap64 (((n + 1 : Nat) : Int) + 1) = ((n + 2 : Nat) : Int) := by rw [w64 (by omega) (by omega)]; rfl
            rw [show ((d :: r1) == ([] : List UInt8)) = false from rfl]
            refine Ev.step (fun k => by rw [lex_quoted.j2]) ?_
            refine Ev.no (by simp) (Ev.yes (by rw [bs_size]; simp <;> omega) ?_)
            rw [bt0]
            dsimp only
            have good : (d = 92 ∨ d = 34) → Ev (fun k => lex_quoted.j3 k (bs l) (un b) (n : Int) (bs (d :: r1)) true) (qS r1 (b ++ [d]) (n + 2)) := by
              intro hd
              refine Ev.step (fun k => by rw [lex_quoted.j3]) ?_
              refine Ev.yes rfl (Ev.yes (by rw [bs_size]; simp <;> omega) (Ev.yes hun.out ?_))
              rw [bt0, un_snoc, e1, e3]
              exact ih r1 (b ++ [d]) (n + 2) (Nat.le_of_succ_le hm') g3 g2 (snoc_le hb d 2 (by decide))
            by_cases hd92 : d = 92
            · rw [if_pos (.inl hd92)]
              exact Ev.yes (by rw [hd92]; decide) (good (.inl hd92))
            · refine Ev.no (fun e => hd92 (u8_eq (n := 92) e (by decide))) ?_
              by_cases hd34 : d = 34
              · rw [if_pos (.inr hd34)]
                have := good (.inr hd34)
                rw [show ((d.toNat : Int) == 34) = true by rw [hd34]; decide]
                exact this
              · rw [if_neg (fun e => e.elim hd92 hd34)]
                have e34 : ((d.toNat : Int) == 34) = false := beq_eq_false_iff_ne.2 (fun e => hd34 (u8_eq (n := 34) e (by decide)))
                rw [e34]
                refine Ev.step (fun k => by rw [lex_quoted.j3]) ?_
                refine Ev.no (by simp) (Ev.yes (by rw [bs_size]; simp <;> omega) ?_)
                rw [bt0, bs_size]
                by_cases h110 : d = 110
                · rw [if_pos h110]
                  refine Ev.yes (by rw [h110]; decide) (Ev.yes hun.out ?_)
                  rw [e1, e3]
                  have := ih r1 (b ++ [10]) (n + 2) (Nat.le_of_succ_le hm') g3 g2 (snoc_le hb 10 2 (by decide))
                  rw [← un_snoc] at this
                  exact this
                · rw [if_neg h110]
                  refine Ev.no (fun e => h110 (u8_eq (n := 110) e (by decide))) ?_
                  by_cases h120 : d = 120
                  · rw [if_pos h120]
                    match r1, hr1, g3, hm', good with
                    | [], _, _, _, _ => exact Ev.no (by simp) (q_j4no _ _ _ _)
                    | [a], _, _, _, _ => exact Ev.no (by simp) (q_j4no _ _ _ _)
                    | a :: a2 :: r2, hr1, g3, hm', _ =>
                      refine Ev.yes (by simp <;> omega) (Ev.yes (by rw [h120]; decide) (Ev.yes (by simp <;> omega) ?_))
                      have b1 : bt (bs (d :: a :: a2 :: r2)) 1 = (a.toNat : Int) := bt_bs (d :: a :: a2 :: r2) 1
                      have b2 : bt (bs (d :: a :: a2 :: r2)) 2 = (a2.toNat : Int) := bt_bs (d :: a :: a2 :: r2) 2
                      rw [b1, b2]
                      refine Ev.bind0 (lhex_f a) ?_
                      dsimp only
                      cases ha : hexV a with
                      | none => exact Ev.no (by simp) (q_j4no _ _ _ _)
                      | some x =>
                        refine Ev.yes rfl (Ev.yes (by simp <;> omega) (Ev.bind0 (lhex_f a2) ?_))
                        cases ha2 : hexV a2 with
                        | none => exact q_j4no _ _ _ _
                        | some y =>
                          refine Ev.step (fun k => by rw [lex_quoted.j4]) ?_
                          refine Ev.yes rfl (Ev.yes (by rw [bs_size]; simp <;> omega) ?_)
                          rw [b1, b2, bs_size]
                          refine Ev.bind0 (value_f ha) (Ev.yes (by simp <;> omega) (Ev.bind0 (value_f ha2) (Ev.yes hun.out ?_)))
                          rw [nib_or (hexV_lt ha) (hexV_lt ha2), un_snoc]
                          have hr2 : (a :: a2 :: r2).length = r2.length + 2 := by simp
                          have e4 : wrap64 (wrap64 ((n : Int) + 3) + 1) = ((n + 4 : Nat) : Int) := by rw [w64 (x := (n : Int) + 3) (by omega) (by omega), w64 (by omega) (by omega)]; omega
                          rw [e4]
                          refine ih r2 _ (n + 4) (Nat.le_of_succ_le (Nat.le_of_succ_le (Nat.le_of_succ_le hm'))) ?_ ?_ (snoc_le hb _ 4 (by decide))
                          rotate_left
                          · have z := hr1
                            clear e1 e2 e3 e4
                            simp at z
                            omega
                          have := congrArg (List.drop 2) g3
                          rw [List.drop_drop] at this
                          exact this
                  · rw [if_neg h120]
                    by_cases hlen : ((d :: r1).length : Int) > 2
                    · exact Ev.yes hlen (Ev.no (fun e => h120 (u8_eq (n := 120) e (by decide))) (q_j4no _ _ _ _))
                    · exact Ev.no hlen (q_j4no _ _ _ _)
        · rw [if_neg h92]
          refine Ev.no (fun e => h92 (u8_eq (n := 92) e (by decide))) ?_
          have no : Ev (fun k => lex_quoted.j1 k (bs l) (un b) (n : Int) (c.toNat : Int) (bs r) false) (bad 61) := by
            refine Ev.step (fun k => by rw [lex_quoted.j1]) ?_
            exact Ev.no (by simp) (Ev.no (fun e => h92 (u8_eq (n := 92) e (by decide))) (q_j2no _ _ _ _))
          by_cases h32 : 32 ≤ c.toNat
          · refine Ev.yes (by omega) ?_
            by_cases h126 : c.toNat ≤ 126
            · rw [if_pos ⟨h32, h126⟩, decide_eq_true (by omega)]
              refine Ev.step (fun k => by rw [lex_quoted.j1]) ?_
              refine Ev.yes rfl (Ev.yes hun.out ?_)
              rw [un_snoc, e1]
              exact ih r (b ++ [c]) (n + 1) hm' h3 h2 (snoc_le hb c 1 (by decide))
            · rw [if_neg (fun e => h126 e.2), decide_eq_false (by omega)]
              exact no
          · rw [if_neg (fun e => h32 e.1)]
            exact Ev.no (by omega) no
theorem quoted_ev (l : List UInt8) (h1 : 1 ≤ l.length) (hl : l.length ≤ 1000000) : Ev (fun k => lex_quoted.f k (bs l)) (qS (l.drop 1) [] 1) := by
  unfold lex_quoted.f
  exact quoted_l0 l hl _ _ [] 1 (Nat.le_refl _) rfl h1 (by simp)
def nextT (l : List UInt8) : T7 := match l with
  | [] => bad 60
  | c :: r =>
    if lowB c = true then nameT ((c :: r).takeWhile nameB)
    else if Lib.hasPrefix (c :: r) [48, 120] = true then floatTok ((c :: r).take (dblN (c :: r)))
    else if isDig c = true then wholeTok ((c :: r).takeWhile isDig)
    else if c = 34 then qS r [] 1
    else markT (c :: r)
theorem lower_f (c : UInt8) : lex_lower.f (c.toNat : Int) = some (lowB c) := by
  unfold lex_lower.f lowB
  have h5 : ((c.toNat : Int) == 95) = (c == 95) := c_eq (n := 95) (by decide)
  by_cases h1 : 97 ≤ c.toNat
  · rw [if_pos (by omega)]
    by_cases h2 : c.toNat ≤ 122
    · rw [if_pos (by omega), decide_eq_true ⟨h1, h2⟩]; rfl
    · rw [if_neg (by omega), decide_eq_false (by omega), h5]; rfl
  · rw [if_neg (by omega), decide_eq_false (by omega), h5]; rfl
theorem nextT_cons (c : UInt8) (r : List UInt8) : nextT (c :: r) =
    if lowB c = true then nameT ((c :: r).takeWhile nameB)
    else if Lib.hasPrefix (c :: r) [48, 120] = true then floatTok ((c :: r).take (dblN (c :: r)))
    else if isDig c = true then wholeTok ((c :: r).takeWhile isDig)
    else if c = 34 then qS r [] 1
    else markT (c :: r) := rfl
theorem next_ev (c : UInt8) (r : List UInt8) (hl : (c :: r).length ≤ 1000000) : Ev (fun k => lex_next.f k (bs (c :: r))) (nextT (c :: r)) := by
  have e := nextT_cons c r
  unfold lex_next.f
  refine Ev.yes (by rw [bs_size]; simp <;> omega) ?_
  rw [bt0]
  refine Ev.bind0 (lower_f c) ?_
  by_cases h1 : lowB c = true
  · rw [if_pos h1] at e; rw [e]
    exact Ev.yes h1 (Ev.bind (name_ev _ hl) (Ev.ret rfl))
  · rw [if_neg h1] at e
    refine Ev.no h1 ?_
    have hp : strings_HasPrefix.f (bs (c :: r)) ⟨#[48, 120]⟩ = some (Lib.hasPrefix (c :: r) [48, 120]) := rfl
    refine Ev.bind0 hp ?_
    by_cases h2 : Lib.hasPrefix (c :: r) [48, 120] = true
    · rw [if_pos h2] at e; rw [e]
      refine Ev.yes h2 (Ev.bind (double_ev _ ?_ hl) (Ev.ret rfl))
      rcases pre2 (c :: r) with ⟨_, q, hq, _⟩ | ⟨hn, _, _⟩
      · rw [hq]; simp
      · rw [hn] at h2; cases h2
    · rw [if_neg h2] at e
      refine Ev.no h2 (Ev.bind0 (digit_f c) ?_)
      by_cases h3 : isDig c = true
      · rw [if_pos h3] at e; rw [e]
        exact Ev.yes h3 (Ev.bind (whole_ev _ hl) (Ev.ret rfl))
      · rw [if_neg h3] at e
        refine Ev.no h3 ?_
        by_cases h4 : c = 34
        · rw [if_pos h4] at e; rw [e]
          have := quoted_ev (c :: r) (by simp) hl
          exact Ev.yes (by rw [h4]; rfl) (Ev.bind this (Ev.ret rfl))
        · rw [if_neg h4] at e
          rw [e]
          exact Ev.no (fun e => h4 (u8_eq (n := 34) e (by decide))) (Ev.bind (mark_ev _) (Ev.ret rfl))
end Go.Proofs.YtjolkombhdibcaaDoor.Sp
end
section
namespace Go.Proofs.YtjolkombhdibcaaDoor.Sp
open Go.RowKit Go.Proofs.YtjolkombhdibcaaDoorW.PrintWords Go.Proofs.YtjolkombhdibcaaDoorW.PrintMore Go.Proofs.YtjolkombhdibcaaDoor.Given Go.Proofs.YtjolkombhdibcaaDoor.Print
set_option linter.unusedVariables false
set_option linter.unusedSimpArgs false
abbrev E := S30 × Int × Int
def tk (t : T7) (p : Nat) : S30 := ⟨t.1, p, t.2.2.1, t.2.2.2.1, t.2.2.2.2.1⟩
def tn (t : T7) : Int := t.2.2.2.2.2.1
def te (t : T7) : Int := t.2.2.2.2.2.2
def blank (c : UInt8) : Prop := c = 32 ∨ c = 9 ∨ c = 10
instance (c : UInt8) : Decidable (blank c) := by unfold blank; infer_instance
def endE (p : Nat) : E := (⟨7, p, bs [], 0, 0⟩, 0, 0)
def toks : List UInt8 → Nat → List E
  | [], p => [endE p]
  | c :: r, p =>
    if blank c then toks r (p + 1)
    else if c = 35 then toks (r.drop (Given.runN lineB r)) (p + (1 + Given.runN lineB r))
    else if te (nextT (c :: r)) = 0 then (tk (nextT (c :: r)) p, 0, 0) :: toks (r.drop ((tn (nextT (c :: r))).toNat - 1)) (p + (tn (nextT (c :: r))).toNat)
    else [(z30, te (nextT (c :: r)), (p : Int))]
termination_by l => l.length
decreasing_by
  · simp
  · simp; omega
  · simp; omega
theorem toks_nil (p : Nat) : toks [] p = [endE p] := by rw [toks]
theorem toks_blank {c : UInt8} (h : blank c) (r : List UInt8) (p : Nat) : toks (c :: r) p = toks r (p + 1) := by rw [toks, if_pos h]
theorem toks_hash (r : List UInt8) (p : Nat) : toks (35 :: r) p = toks (r.drop (Given.runN lineB r)) (p + (1 + Given.runN lineB r)) := by
  rw [toks, if_neg (by decide), if_pos rfl]
theorem run_cons {p : UInt8 → Bool} {c : UInt8} (h : p c = true) (r : List UInt8) : Given.runN p (c :: r) = 1 + Given.runN p r := by
  unfold Given.runN
  rw [List.takeWhile_cons, h]
  show (r.takeWhile p).length + 1 = _
  omega
theorem qS_n : ∀ (m : Nat) (r b : List UInt8) (n : Nat), r.length ≤ m → te (qS r b n) = 0 → ∃ q : Nat, tn (qS r b n) = q ∧ n < q ∧ q ≤ n + r.length := by
  intro m
  induction m with
  | zero =>
    intro r b n hm h
    have : r = [] := List.eq_nil_of_length_eq_zero (by omega)
    subst this
    rw [qS_nil] at h
    cases h
  | succ m ih =>
    intro r b n hm h
    cases r with
    | nil => rw [qS_nil] at h; cases h
    | cons c r =>
      have hm' : r.length ≤ m := by simpa using hm
      rw [qS_cons] at h ⊢
      by_cases h34 : c = 34
      · rw [if_pos h34]
        exact ⟨n + 1, rfl, by omega, by simp⟩
      · rw [if_neg h34] at h ⊢
        by_cases h92 : c = 92
        · rw [if_pos h92] at h ⊢
          cases r with
          | nil => cases h
          | cons d r1 =>
            dsimp only at h ⊢
            have hm1 : r1.length ≤ m := by simp at hm'; omega
            by_cases hd : d = 92 ∨ d = 34
            · rw [if_pos hd] at h ⊢
              obtain ⟨q, h1, h2, h3⟩ := ih r1 _ _ hm1 h
              exact ⟨q, h1, by omega, by simp; omega⟩
            · rw [if_neg hd] at h ⊢
              by_cases h110 : d = 110
              · rw [if_pos h110] at h ⊢
                obtain ⟨q, h1, h2, h3⟩ := ih r1 _ _ hm1 h
                exact ⟨q, h1, by omega, by simp; omega⟩
              · rw [if_neg h110] at h ⊢
                by_cases h120 : d = 120
                · rw [if_pos h120] at h ⊢
                  match r1, hm1, h with
                  | [], _, h => cases h
                  | [a], _, h => cases h
                  | a :: a2 :: r2, hm1, h =>
                    dsimp only at h ⊢
                    cases ha : hexV a with
                    | none => rw [ha] at h; cases h
                    | some x =>
                      cases ha2 : hexV a2 with
                      | none => rw [ha, ha2] at h; cases h
                      | some y =>
                        rw [ha, ha2] at h
                        dsimp only at h ⊢
                        obtain ⟨q, h1, h2, h3⟩ := ih r2 _ _ (by simp at hm1; omega) h
                        exact ⟨q, h1, by omega, by simp; omega⟩
                · rw [if_neg h120] at h; cases h
        · rw [if_neg h92] at h ⊢
          by_cases hc : 32 ≤ c.toNat ∧ c.toNat ≤ 126
          · rw [if_pos hc] at h ⊢
            obtain ⟨q, h1, h2, h3⟩ := ih r _ _ hm' h
            exact ⟨q, h1, by omega, by simp; omega⟩
          · rw [if_neg hc] at h; cases h
theorem pre_len {l m : List UInt8} (h : Lib.hasPrefix l m = true) : m.length ≤ l.length := by
  unfold Lib.hasPrefix at h
  exact (List.isPrefixOf_iff_prefix.1 h).length_le
theorem mark_n (l : List UInt8) (h : te (markT l) = 0) : ∃ q : Nat, tn (markT l) = q ∧ 1 ≤ q ∧ q ≤ l.length := by
  unfold markT markOf at h ⊢
  cases hf : marksL.find? (fun m => Lib.hasPrefix l m) with
  | none => rw [hf] at h; cases h
  | some m =>
    have h1 : Lib.hasPrefix l m = true := List.find?_some hf
    have h2 : m ∈ marksL := List.mem_of_find?_eq_some hf
    have h3 : ∀ m ∈ marksL, 1 ≤ m.length := by decide
    exact ⟨m.length, rfl, h3 m h2, pre_len h1⟩
theorem takeWhile_n {p : UInt8 → Bool} {c : UInt8} (h : p c = true) (r : List UInt8) : 1 ≤ ((c :: r).takeWhile p).length ∧ ((c :: r).takeWhile p).length ≤ (c :: r).length := by
  constructor
  · rw [List.takeWhile_cons, h]; simp
  · exact (List.takeWhile_sublist p).length_le
theorem next_n (c : UInt8) (r : List UInt8) (h : te (nextT (c :: r)) = 0) : ∃ q : Nat, tn (nextT (c :: r)) = q ∧ 1 ≤ q ∧ q ≤ (c :: r).length := by
  rw [nextT_cons] at h ⊢
  by_cases h1 : lowB c = true
  · rw [if_pos h1] at h ⊢
    have hn := takeWhile_n (p := nameB) (c := c) (by unfold nameB; rw [h1]; rfl) r
    unfold nameT at h ⊢
    by_cases a1 : 31 < ((c :: r).takeWhile nameB).length
    · rw [if_pos a1] at h; cases h
    · rw [if_neg a1] at h ⊢
      by_cases a2 : (c :: r).takeWhile nameB = [105, 110, 102] ∨ (c :: r).takeWhile nameB = [110, 97, 110]
      · rw [if_pos a2]; exact ⟨_, rfl, hn⟩
      · rw [if_neg a2]
        by_cases a3 : (c :: r).takeWhile nameB ∈ wordsL
        · rw [if_pos a3]; exact ⟨_, rfl, hn⟩
        · rw [if_neg a3]; exact ⟨_, rfl, hn⟩
  · rw [if_neg h1] at h ⊢
    by_cases h2 : Lib.hasPrefix (c :: r) [48, 120] = true
    · rw [if_pos h2] at h ⊢
      unfold floatTok at h ⊢
      by_cases a1 : (pfS ((c :: r).take (dblN (c :: r)))).2 = 0
      · rw [if_pos a1]
        refine ⟨_, rfl, ?_, ?_⟩
        · have : 1 ≤ dblN (c :: r) := by unfold dblN; omega
          rw [List.length_take]
          simp
          omega
        · rw [List.length_take]; omega
      · rw [if_neg a1] at h; cases h
    · rw [if_neg h2] at h ⊢
      by_cases h3 : isDig c = true
      · rw [if_pos h3] at h ⊢
        have hn := takeWhile_n (p := isDig) h3 r
        unfold wholeTok at h ⊢
        by_cases a1 : (parseIntT ((c :: r).takeWhile isDig)).2 = 0
        · rw [if_pos a1]; exact ⟨_, rfl, hn⟩
        · rw [if_neg a1] at h; cases h
      · rw [if_neg h3] at h ⊢
        by_cases h4 : c = 34
        · rw [if_pos h4] at h ⊢
          obtain ⟨q, g1, g2, g3⟩ := qS_n _ r [] 1 (Nat.le_refl _) h
          exact ⟨q, g1, by omega, by simp; omega⟩
        · rw [if_neg h4] at h ⊢
          exact mark_n _ h
theorem toks_tok {c : UInt8} (hb : ¬ blank c) (hc : c ≠ 35) (r : List UInt8) (p q : Nat) (he : te (nextT (c :: r)) = 0) (hq : tn (nextT (c :: r)) = q) :
    toks (c :: r) p = (tk (nextT (c :: r)) p, 0, 0) :: toks ((c :: r).drop q) (p + q) := by
  obtain ⟨q', h1, h2, h3⟩ := next_n c r he
  obtain rfl : q' = q := by rw [hq] at h1; omega
  rw [toks, if_neg hb, if_neg hc, if_pos he, hq, Int.toNat_natCast]
  obtain ⟨m, rfl⟩ : ∃ m, q' = m + 1 := ⟨q' - 1, by omega⟩
  rw [List.drop_succ_cons]
  rfl
theorem toks_bad {c : UInt8} (hb : ¬ blank c) (hc : c ≠ 35) (r : List UInt8) (p : Nat) (he : te (nextT (c :: r)) ≠ 0) :
    toks (c :: r) p = [(z30, te (nextT (c :: r)), (p : Int))] := by
  rw [toks, if_neg hb, if_neg hc, if_neg he]
def col : List S30 → List E → List S30 × Int × Int
  | acc, [] => (acc, 0, 0)
  | acc, (t, c, a) :: r => if c = 0 then col (acc ++ [t]) r else ([], c, a)
def seqT (l : List UInt8) : List E := if 65536 < l.length then [(z30, 2, 0)] else toks l 0
def allT (l : List UInt8) : List S30 × Int × Int := col [] (seqT l)
theorem col_all : ∀ (ys : List E) (acc : List S30), (∀ x ∈ ys, x.2.1 = 0) → col acc ys = (acc ++ ys.map Prod.fst, 0, 0)
  | [], acc, _ => by simp [col]
  | (t, c, a) :: r, acc, h => by
    have h0 : c = 0 := h (t, c, a) (by simp)
    rw [col, if_pos h0, col_all r _ (fun x hx => h x (by simp [hx]))]
    simp
theorem col_stop : ∀ (p : List E) (acc : List S30) (t : S30) (c a : Int) (r : List E), (∀ x ∈ p, x.2.1 = 0) → c ≠ 0 → col acc (p ++ (t, c, a) :: r) = ([], c, a)
  | [], acc, t, c, a, r, _, hc => by rw [List.nil_append, col, if_neg hc]
  | (t', c', a') :: p, acc, t, c, a, r, h, hc => by
    have h0 : c' = 0 := h (t', c', a') (by simp)
    rw [List.cons_append, col, if_pos h0]
    exact col_stop p _ t c a r (fun x hx => h x (by simp [hx])) hc
theorem toks_ne : ∀ (m : Nat) (l : List UInt8) (p : Nat), l.length ≤ m → 1 ≤ (toks l p).length := by
  intro m
  induction m with
  | zero =>
    intro l p h
    have : l = [] := List.eq_nil_of_length_eq_zero (by omega)
    subst this
    rw [toks_nil]; simp
  | succ m ih =>
    intro l p h
    cases l with
    | nil => rw [toks_nil]; simp
    | cons c r =>
      have hr : r.length ≤ m := by simpa using h
      rw [toks]
      split
      · exact ih _ _ hr
      · split
        · exact ih _ _ (by simp; omega)
        · split
          · simp
          · simp
theorem toks_le : ∀ (m : Nat) (l : List UInt8) (p : Nat), l.length ≤ m → (toks l p).length ≤ l.length + 1 := by
  intro m
  induction m with
  | zero =>
    intro l p h
    have : l = [] := List.eq_nil_of_length_eq_zero (by omega)
    subst this
    rw [toks_nil]; simp
  | succ m ih =>
    intro l p h
    cases l with
    | nil => rw [toks_nil]; simp
    | cons c r =>
      have hr : r.length ≤ m := by simpa using h
      rw [toks]
      split
      · have := ih r (p + 1) hr; simp; omega
      · split
        · have := ih (r.drop (Given.runN lineB r)) (p + (1 + Given.runN lineB r)) (by simp; omega)
          simp at this ⊢; omega
        · split
          · have := ih (r.drop ((tn (nextT (c :: r))).toNat - 1)) (p + (tn (nextT (c :: r))).toNat) (by simp; omega)
            simp at this ⊢; omega
          · simp
theorem seq_le (l : List UInt8) : (seqT l).length ≤ l.length + 1 := by
  unfold seqT
  split
  · simp
  · exact toks_le _ l 0 (Nat.le_refl _)
end Go.Proofs.YtjolkombhdibcaaDoor.Sp
end
section
namespace Go.Proofs.YtjolkombhdibcaaDoor.Print
open Go.RowKit Go.Proofs.YtjolkombhdibcaaDoor.Given Go.Proofs.YtjolkombhdibcaaDoorW.PrintWords Go.Proofs.YtjolkombhdibcaaDoorW.PrintLast Go.Proofs.YtjolkombhdibcaaDoorW.PrintMore
attribute [local go_sem] max2_int min2_int max_two min_two max_three min_three max_four min_four
set_option linter.unusedVariables false
set_option linter.unusedSimpArgs false
mutual
def casketref11_Blank.l0 : Nat → ByteArray → Int → Option (Int)
 | 0, _, _ => none
 | k + 1, x0, x1 => if x1 < (x0.size : Int) then (if 0 ≤ x1 then (if (bt x0 x1) = 32 then (casketref11_Blank.j1 k x0 x1 (bt x0 x1) true) else (if (bt x0 x1) = 9 then (casketref11_Blank.j1 k x0 x1 (bt x0 x1) true) else (casketref11_Blank.j1 k x0 x1 (bt x0 x1) ((bt x0 x1) == 10)))) else (none)) else (some x1)
def casketref11_Blank.j1 : Nat → ByteArray → Int → Int → Bool → Option (Int)
 | 0, _, _, _, _ => none
 | k + 1, x0, x1, x5, x22 => if x22 = true then (casketref11_Blank.l0 k x0 (wrap64 (x1 + 1))) else (if x5 = 35 then (casketref11_Blank.l1 k x0 x1) else (some x1))
def casketref11_Blank.l1 : Nat → ByteArray → Int → Option (Int)
 | 0, _, _ => none
 | k + 1, x0, x1 => if x1 < (x0.size : Int) then (if 0 ≤ x1 then (if (bt x0 x1) = 10 then (casketref11_Blank.l0 k x0 x1) else (casketref11_Blank.l1 k x0 (wrap64 (x1 + 1)))) else (none)) else (casketref11_Blank.l0 k x0 x1)
end
def casketref11_fault.f (a0 : Int) (a1 : Int) : Option (Int × Int × ByteArray × Int × Int × Int × Int × Int) := some (0, 0, (⟨#[]⟩ : ByteArray), 0, 0, a1, a0, a1)
def casketref11_digit.f (a0 : Int) : Option (Bool) := if a0 ≥ 48 then (some (decide (a0 ≤ 57))) else (some false)
def casketref4_hex.l0 : Nat → Int → Int → Option (Int)
 | 0, _, _ => none
 | k + 1, x0, x3 => if x3 < 16 then (if 0 ≤ x3 then (if (bt (⟨#[48, 49, 50, 51, 52, 53, 54, 55, 56, 57, 97, 98, 99, 100, 101, 102]⟩ : ByteArray) x3) = x0 then (some x3) else (casketref4_hex.l0 k x0 (wrap64 (x3 + 1)))) else (none)) else (some (-1))
def casketref4_hex.f (k : Nat) (a0 : Int) : Option (Int) := casketref4_hex.l0 k a0 0
def casketref4_nibble.f (l0 : List Int) (a1 : Int) : Option (List Int) := (some (([wrap64 (Int.tdiv a1 8), Int.tmod (wrap64 (Int.tdiv a1 4)) 2, Int.tmod (wrap64 (Int.tdiv a1 2)) 2, Int.tmod a1 2] : List Int) : List Int)).bind fun y247 => (if l0.length + y247.length < 17592186044416 then (some (l0 ++ y247)) else (none))
end Go.Proofs.YtjolkombhdibcaaDoor.Print
end
section
namespace Go.Proofs.YtjolkombhdibcaaDoor.Print
open Go.RowKit Go.Proofs.YtjolkombhdibcaaDoor.Given Go.Proofs.YtjolkombhdibcaaDoorW.PrintWords Go.Proofs.YtjolkombhdibcaaDoorW.PrintLast Go.Proofs.YtjolkombhdibcaaDoorW.PrintMore
attribute [local go_sem] max2_int min2_int max_two min_two max_three min_three max_four min_four
set_option linter.unusedVariables false
set_option linter.unusedSimpArgs false
mutual
def casketref4_ParseFloat.j0 : Nat → ByteArray → Int → Bool → Option (Int × Int)
 | 0, _, _, _ => none
 | k + 1, x0, x4, x27 => if x27 = true then (if 1 ≤ (x0.size : Int) then (casketref4_ParseFloat.j1 k (x0.extract 1 x0.size) 9223372036854775808) else (none)) else (casketref4_ParseFloat.j1 k x0 x4)
def casketref4_ParseFloat.j1 : Nat → ByteArray → Int → Option (Int × Int)
 | 0, _, _ => none
 | k + 1, x0, x4 => if (x0.size : Int) < 2 then (casketref4_ParseFloat.j2 k x0 x4 true) else (if 0 < (x0.size : Int) then (if (bt x0 0) = 48 then (if 1 < (x0.size : Int) then (casketref4_ParseFloat.j2 k x0 x4 ((bt x0 1) != 120)) else (none)) else (casketref4_ParseFloat.j2 k x0 x4 true)) else (none))
def casketref4_ParseFloat.j2 : Nat → ByteArray → Int → Bool → Option (Int × Int)
 | 0, _, _, _ => none
 | k + 1, x0, x4, x42 => if x42 = true then (some (0, 20)) else (casketref4_ParseFloat.l0 k x0 x4 2 ([] : List Int) 0 0)
def casketref4_ParseFloat.l0 : Nat → ByteArray → Int → Int → List Int → Int → Int → Option (Int × Int)
 | 0, _, _, _, _, _, _ => none
 | k + 1, x0, x4, x5, x6, x7, x8 => if x5 < (x0.size : Int) then (if 0 ≤ x5 then ((casketref4_hex.f k (bt x0 x5)).bind fun t266 => (casketref4_ParseFloat.j4 k x0 x4 x5 x6 x7 x8 (decide (t266 ≥ 0)))) else (none)) else (casketref4_ParseFloat.j4 k x0 x4 x5 x6 x7 x8 false)
def casketref4_ParseFloat.j4 : Nat → ByteArray → Int → Int → List Int → Int → Int → Bool → Option (Int × Int)
 | 0, _, _, _, _, _, _, _ => none
 | k + 1, x0, x4, x5, x6, x7, x8, x53 => if x53 = true then (if 0 ≤ x5 then (if x5 < (x0.size : Int) then ((casketref4_hex.f k (bt x0 x5)).bind fun t267 => ((casketref4_nibble.f x6 t267).bind fun t268 => (casketref4_ParseFloat.l0 k x0 x4 (wrap64 (x5 + 1)) t268 (wrap64 (x7 + 1)) x8))) else (none)) else (none)) else (if x7 = 0 then (some (0, 20)) else (if x5 < (x0.size : Int) then (if 0 ≤ x5 then (casketref4_ParseFloat.j5 k x0 x4 x5 x6 x8 ((bt x0 x5) == 46)) else (none)) else (casketref4_ParseFloat.j5 k x0 x4 x5 x6 x8 false)))
def casketref4_ParseFloat.j5 : Nat → ByteArray → Int → Int → List Int → Int → Bool → Option (Int × Int)
 | 0, _, _, _, _, _, _ => none
 | k + 1, x0, x4, x5, x6, x8, x75 => if x75 = true then (casketref4_ParseFloat.l1 k x0 x4 (wrap64 (x5 + 1)) x6 x8) else (casketref4_ParseFloat.j8 k x0 x4 x5 x6 x8)
def casketref4_ParseFloat.j8 : Nat → ByteArray → Int → Int → List Int → Int → Option (Int × Int)
 | 0, _, _, _, _, _ => none
 | k + 1, x0, x4, x5, x6, x8 => if (wrap64 (x5 + 1)) ≥ (x0.size : Int) then (casketref4_ParseFloat.j9 k x0 x4 x5 x6 x8 true) else (if 0 ≤ x5 then (if x5 < (x0.size : Int) then (if (bt x0 x5) = 112 then (if 0 ≤ (wrap64 (x5 + 1)) then (if (wrap64 (x5 + 1)) < (x0.size : Int) then (if (bt x0 (wrap64 (x5 + 1))) = 43 then (casketref4_ParseFloat.j9 k x0 x4 x5 x6 x8 false) else (casketref4_ParseFloat.j9 k x0 x4 x5 x6 x8 ((bt x0 (wrap64 (x5 + 1))) != 45))) else (none)) else (none)) else (casketref4_ParseFloat.j9 k x0 x4 x5 x6 x8 true)) else (none)) else (none))
def casketref4_ParseFloat.j9 : Nat → ByteArray → Int → Int → List Int → Int → Bool → Option (Int × Int)
 | 0, _, _, _, _, _, _ => none
 | k + 1, x0, x4, x5, x6, x8, x125 => if x125 = true then (some (0, 20)) else (if 0 ≤ (wrap64 (x5 + 1)) then (if (wrap64 (x5 + 1)) < (x0.size : Int) then (if (wrap64 (x5 + 2)) = (x0.size : Int) then (casketref4_ParseFloat.j10 k x0 x4 (wrap64 (x5 + 2)) x6 x8 ((bt x0 (wrap64 (x5 + 1))) == 45) true) else (casketref4_ParseFloat.j10 k x0 x4 (wrap64 (x5 + 2)) x6 x8 ((bt x0 (wrap64 (x5 + 1))) == 45) (decide ((wrap64 ((x0.size : Int) - (wrap64 (x5 + 2)))) > 5)))) else (none)) else (none))
def casketref4_ParseFloat.j10 : Nat → ByteArray → Int → Int → List Int → Int → Bool → Bool → Option (Int × Int)
 | 0, _, _, _, _, _, _, _ => none
 | k + 1, x0, x4, x5, x6, x8, x9, x143 => if x143 = true then (some (0, 20)) else (casketref4_ParseFloat.l2 k x0 x4 x5 x6 x8 x9 0)
def casketref4_ParseFloat.l2 : Nat → ByteArray → Int → Int → List Int → Int → Bool → Int → Option (Int × Int)
 | 0, _, _, _, _, _, _, _ => none
 | k + 1, x0, x4, x5, x6, x8, x9, x10 => if x5 < (x0.size : Int) then (if 0 ≤ x5 then (if (bt x0 x5) < 48 then (some (0, 20)) else (if (bt x0 x5) > 57 then (some (0, 20)) else (casketref4_ParseFloat.l2 k x0 x4 (wrap64 (x5 + 1)) x6 x8 x9 (wrap64 ((wrap64 (10 * x10)) + (((bt x0 x5) - 48) % 256)))))) else (none)) else (if x9 = true then ((casketref4_exact.f k x4 x6 (wrap64 ((wrap64 (-x10)) - (wrap64 (4 * x8))))).bind fun bt276 => (some (bt276.1, bt276.2))) else ((casketref4_exact.f k x4 x6 (wrap64 (x10 - (wrap64 (4 * x8))))).bind fun bt278 => (some (bt278.1, bt278.2))))
def casketref4_ParseFloat.l1 : Nat → ByteArray → Int → Int → List Int → Int → Option (Int × Int)
 | 0, _, _, _, _, _ => none
 | k + 1, x0, x4, x5, x6, x8 => if x5 < (x0.size : Int) then (if 0 ≤ x5 then ((casketref4_hex.f k (bt x0 x5)).bind fun t271 => (casketref4_ParseFloat.j7 k x0 x4 x5 x6 x8 (decide (t271 ≥ 0)))) else (none)) else (casketref4_ParseFloat.j7 k x0 x4 x5 x6 x8 false)
def casketref4_ParseFloat.j7 : Nat → ByteArray → Int → Int → List Int → Int → Bool → Option (Int × Int)
 | 0, _, _, _, _, _, _ => none
 | k + 1, x0, x4, x5, x6, x8, x88 => if x88 = true then (if 0 ≤ x5 then (if x5 < (x0.size : Int) then ((casketref4_hex.f k (bt x0 x5)).bind fun t272 => ((casketref4_nibble.f x6 t272).bind fun t273 => (casketref4_ParseFloat.l1 k x0 x4 (wrap64 (x5 + 1)) t273 (wrap64 (x8 + 1))))) else (none)) else (none)) else (if x8 = 0 then (some (0, 20)) else (casketref4_ParseFloat.j8 k x0 x4 x5 x6 x8))
end
def casketref4_ParseFloat.f (k : Nat) (a0 : ByteArray) : Option (Int × Int) := if (a0.size : Int) > 64 then (some (0, 2)) else (if a0.toList = ([110, 97, 110] : List UInt8) then (some (9221120237041090560, 0)) else (if a0.toList = ([105, 110, 102] : List UInt8) then (some (9218868437227405312, 0)) else (if a0.toList = ([45, 105, 110, 102] : List UInt8) then (some (18442240474082181120, 0)) else (if a0.toList = ([] : List UInt8) then (casketref4_ParseFloat.j0 k a0 0 false) else (if 0 < (a0.size : Int) then (casketref4_ParseFloat.j0 k a0 0 ((bt a0 0) == 45)) else (none))))))
end Go.Proofs.YtjolkombhdibcaaDoor.Print
end
section
namespace Go.Proofs.YtjolkombhdibcaaDoor.Sp
end Go.Proofs.YtjolkombhdibcaaDoor.Sp
end
section
namespace Go.Proofs.YtjolkombhdibcaaDoor.Print
open Go.RowKit Go.Proofs.YtjolkombhdibcaaDoor.Given Go.Proofs.YtjolkombhdibcaaDoorW.PrintWords Go.Proofs.YtjolkombhdibcaaDoorW.PrintLast Go.Proofs.YtjolkombhdibcaaDoorW.PrintMore
attribute [local go_sem] max2_int min2_int max_two min_two max_three min_three max_four min_four
set_option linter.unusedVariables false
set_option linter.unusedSimpArgs false
def casketref11_hex.f (a0 : Int) : Option (Int) := (casketref11_digit.f a0).bind fun t294 => (if t294 = true then (some ((a0 - 48) % 256)) else (if a0 ≥ 97 then (if a0 ≤ 102 then (some (((a0 - 97) % 256) + 10)) else (some (-1))) else (some (-1))))
end Go.Proofs.YtjolkombhdibcaaDoor.Print
end
section
namespace Go.Proofs.YtjolkombhdibcaaDoor.Print
open Go.RowKit Go.Proofs.YtjolkombhdibcaaDoor.Given Go.Proofs.YtjolkombhdibcaaDoorW.PrintWords Go.Proofs.YtjolkombhdibcaaDoorW.PrintLast Go.Proofs.YtjolkombhdibcaaDoorW.PrintMore
attribute [local go_sem] max2_int min2_int max_two min_two max_three min_three max_four min_four
set_option linter.unusedVariables false
set_option linter.unusedSimpArgs false
mutual
def casketref11_number.j0 : Nat → ByteArray → Int → Int → Bool → Option (Int × Int × ByteArray × Int × Int × Int × Int × Int)
 | 0, _, _, _, _ => none
 | k + 1, x0, x1, x7, x30 => if x30 = true then (casketref11_number.l0 k x0 x1 (wrap64 (x1 + 2))) else (casketref11_number.l2 k x0 x1 x7)
def casketref11_number.j2 : Nat → ByteArray → Int → Int → Option (Int × Int × ByteArray × Int × Int × Int × Int × Int)
 | 0, _, _, _ => none
 | k + 1, x0, x1, x7 => if x7 < (x0.size : Int) then (if 0 ≤ x7 then (casketref11_number.j3 k x0 x1 x7 ((bt x0 x7) == 112)) else (none)) else (casketref11_number.j3 k x0 x1 x7 false)
def casketref11_number.j3 : Nat → ByteArray → Int → Int → Bool → Option (Int × Int × ByteArray × Int × Int × Int × Int × Int)
 | 0, _, _, _, _ => none
 | k + 1, x0, x1, x7, x61 => if x61 = true then (if (wrap64 (x7 + 1)) < (x0.size : Int) then (if 0 ≤ (wrap64 (x7 + 1)) then (if (bt x0 (wrap64 (x7 + 1))) = 43 then (casketref11_number.j4 k x0 x1 (wrap64 (x7 + 1)) true) else (casketref11_number.j4 k x0 x1 (wrap64 (x7 + 1)) ((bt x0 (wrap64 (x7 + 1))) == 45))) else (none)) else (casketref11_number.j4 k x0 x1 (wrap64 (x7 + 1)) false)) else (casketref11_number.j7 k x0 x1 x7)
def casketref11_number.j7 : Nat → ByteArray → Int → Int → Option (Int × Int × ByteArray × Int × Int × Int × Int × Int)
 | 0, _, _, _ => none
 | k + 1, x0, x1, x7 => if 0 ≤ x1 then (if x1 ≤ x7 then (if x7 ≤ (x0.size : Int) then ((casketref4_ParseFloat.f k (x0.extract (x1 : Int).toNat (x7 : Int).toNat)).bind fun bt299 => (if bt299.2 = 0 then (some (5, x1, (⟨#[]⟩ : ByteArray), 0, bt299.1, x7, 0, 0)) else ((casketref11_fault.f 62 x1).bind fun bt301 => (some (bt301.1, bt301.2.1, bt301.2.2.1, bt301.2.2.2.1, bt301.2.2.2.2.1, bt301.2.2.2.2.2.1, bt301.2.2.2.2.2.2.1, bt301.2.2.2.2.2.2.2))))) else (none)) else (none)) else (none)
def casketref11_number.j4 : Nat → ByteArray → Int → Int → Bool → Option (Int × Int × ByteArray × Int × Int × Int × Int × Int)
 | 0, _, _, _, _ => none
 | k + 1, x0, x1, x7, x79 => if x79 = true then (casketref11_number.j5 k x0 x1 (wrap64 (x7 + 1))) else (casketref11_number.j5 k x0 x1 x7)
def casketref11_number.j5 : Nat → ByteArray → Int → Int → Option (Int × Int × ByteArray × Int × Int × Int × Int × Int)
 | 0, _, _, _ => none
 | k + 1, x0, x1, x7 => casketref11_number.l1 k x0 x1 x7
def casketref11_number.l1 : Nat → ByteArray → Int → Int → Option (Int × Int × ByteArray × Int × Int × Int × Int × Int)
 | 0, _, _, _ => none
 | k + 1, x0, x1, x7 => if x7 < (x0.size : Int) then (if 0 ≤ x7 then ((casketref11_digit.f (bt x0 x7)).bind fun t298 => (if t298 = true then (casketref11_number.l1 k x0 x1 (wrap64 (x7 + 1))) else (casketref11_number.j7 k x0 x1 x7))) else (none)) else (casketref11_number.j7 k x0 x1 x7)
def casketref11_number.l0 : Nat → ByteArray → Int → Int → Option (Int × Int × ByteArray × Int × Int × Int × Int × Int)
 | 0, _, _, _ => none
 | k + 1, x0, x1, x7 => if x7 < (x0.size : Int) then (if 0 ≤ x7 then ((casketref11_hex.f (bt x0 x7)).bind fun t297 => (if t297 ≥ 0 then (casketref11_number.l0 k x0 x1 (wrap64 (x7 + 1))) else (if (bt x0 x7) = 46 then (casketref11_number.l0 k x0 x1 (wrap64 (x7 + 1))) else (casketref11_number.j2 k x0 x1 x7)))) else (none)) else (casketref11_number.j2 k x0 x1 x7)
def casketref11_number.j9 : Nat → ByteArray → Int → Int → Option (Int × Int × ByteArray × Int × Int × Int × Int × Int)
 | 0, _, _, _ => none
 | k + 1, x0, x1, x7 => if 0 ≤ x1 then (if x1 ≤ x7 then (if x7 ≤ (x0.size : Int) then ((casketref4_ParseInt.f k (x0.extract (x1 : Int).toNat (x7 : Int).toNat)).bind fun bt310 => (if bt310.2 = 0 then (some (4, x1, (⟨#[]⟩ : ByteArray), bt310.1, 0, x7, 0, 0)) else ((casketref11_fault.f 62 x1).bind fun bt312 => (some (bt312.1, bt312.2.1, bt312.2.2.1, bt312.2.2.2.1, bt312.2.2.2.2.1, bt312.2.2.2.2.2.1, bt312.2.2.2.2.2.2.1, bt312.2.2.2.2.2.2.2))))) else (none)) else (none)) else (none)
def casketref11_number.l2 : Nat → ByteArray → Int → Int → Option (Int × Int × ByteArray × Int × Int × Int × Int × Int)
 | 0, _, _, _ => none
 | k + 1, x0, x1, x7 => if x7 < (x0.size : Int) then (if 0 ≤ x7 then ((casketref11_digit.f (bt x0 x7)).bind fun t309 => (if t309 = true then (casketref11_number.l2 k x0 x1 (wrap64 (x7 + 1))) else (casketref11_number.j9 k x0 x1 x7))) else (none)) else (casketref11_number.j9 k x0 x1 x7)
end
end Go.Proofs.YtjolkombhdibcaaDoor.Print
end
section
namespace Go.Proofs.YtjolkombhdibcaaDoor.Print
open Go.RowKit Go.Proofs.YtjolkombhdibcaaDoor.Given Go.Proofs.YtjolkombhdibcaaDoorW.PrintWords Go.Proofs.YtjolkombhdibcaaDoorW.PrintLast Go.Proofs.YtjolkombhdibcaaDoorW.PrintMore
attribute [local go_sem] max2_int min2_int max_two min_two max_three min_three max_four min_four
set_option linter.unusedVariables false
set_option linter.unusedSimpArgs false
mutual
def casketref11_text.l0 : Nat → ByteArray → Int → List Int → Int → Option (Int × Int × ByteArray × Int × Int × Int × Int × Int)
 | 0, _, _, _, _ => none
 | k + 1, x0, x1, x7, x8 => if x8 < (x0.size : Int) then (if 0 ≤ x8 then (if (bt x0 x8) = 34 then (some (6, x1, strOfNums x7, 0, 0, wrap64 (x8 + 1), 0, 0)) else (if (bt x0 x8) < 32 then (casketref11_text.j1 k x0 x1 x7 x8 (bt x0 x8) true) else (casketref11_text.j1 k x0 x1 x7 x8 (bt x0 x8) (decide ((bt x0 x8) > 126))))) else (none)) else ((casketref11_fault.f 61 x1).bind fun bt325 => (some (bt325.1, bt325.2.1, bt325.2.2.1, bt325.2.2.2.1, bt325.2.2.2.2.1, bt325.2.2.2.2.2.1, bt325.2.2.2.2.2.2.1, bt325.2.2.2.2.2.2.2)))
def casketref11_text.j1 : Nat → ByteArray → Int → List Int → Int → Int → Bool → Option (Int × Int × ByteArray × Int × Int × Int × Int × Int)
 | 0, _, _, _, _, _, _ => none
 | k + 1, x0, x1, x7, x8, x9, x36 => if x36 = true then ((casketref11_fault.f 61 x1).bind fun bt333 => (some (bt333.1, bt333.2.1, bt333.2.2.1, bt333.2.2.2.1, bt333.2.2.2.2.1, bt333.2.2.2.2.2.1, bt333.2.2.2.2.2.2.1, bt333.2.2.2.2.2.2.2))) else (if x9 = 92 then (if (wrap64 (x8 + 1)) = (x0.size : Int) then ((casketref11_fault.f 61 x1).bind fun bt344 => (some (bt344.1, bt344.2.1, bt344.2.2.1, bt344.2.2.2.1, bt344.2.2.2.2.1, bt344.2.2.2.2.2.1, bt344.2.2.2.2.2.2.1, bt344.2.2.2.2.2.2.2))) else (if 0 ≤ (wrap64 (x8 + 1)) then (if (wrap64 (x8 + 1)) < (x0.size : Int) then (if (bt x0 (wrap64 (x8 + 1))) = 92 then (casketref11_text.j2 k x0 x1 x7 (wrap64 (x8 + 1)) true) else (casketref11_text.j2 k x0 x1 x7 (wrap64 (x8 + 1)) ((bt x0 (wrap64 (x8 + 1))) == 34))) else (none)) else (none))) else (if x7.length < 140737488355328 then (casketref11_text.l0 k x0 x1 (x7 ++ [x9]) (wrap64 (x8 + 1))) else (none)))
def casketref11_text.j2 : Nat → ByteArray → Int → List Int → Int → Bool → Option (Int × Int × ByteArray × Int × Int × Int × Int × Int)
 | 0, _, _, _, _, _ => none
 | k + 1, x0, x1, x7, x8, x58 => if x58 = true then (if 0 ≤ x8 then (if x8 < (x0.size : Int) then (if x7.length < 140737488355328 then (casketref11_text.l0 k x0 x1 (x7 ++ [bt x0 x8]) (wrap64 (x8 + 1))) else (none)) else (none)) else (none)) else (if 0 ≤ x8 then (if x8 < (x0.size : Int) then (if (bt x0 x8) = 110 then (if x7.length < 140737488355328 then (casketref11_text.l0 k x0 x1 (x7 ++ [10]) (wrap64 (x8 + 1))) else (none)) else (if (bt x0 x8) = 120 then (if (wrap64 (x8 + 2)) < (x0.size : Int) then (if 0 ≤ (wrap64 (x8 + 1)) then (if (wrap64 (x8 + 1)) < (x0.size : Int) then ((casketref11_hex.f (bt x0 (wrap64 (x8 + 1)))).bind fun t358 => (if t358 ≥ 0 then (if 0 ≤ (wrap64 (x8 + 2)) then ((casketref11_hex.f (bt x0 (wrap64 (x8 + 2)))).bind fun t359 => (casketref11_text.j3 k x0 x1 x7 x8 (decide (t359 ≥ 0)))) else (none)) else (casketref11_text.j3 k x0 x1 x7 x8 false))) else (none)) else (none)) else (casketref11_text.j3 k x0 x1 x7 x8 false)) else (casketref11_text.j3 k x0 x1 x7 x8 false))) else (none)) else (none))
def casketref11_text.j3 : Nat → ByteArray → Int → List Int → Int → Bool → Option (Int × Int × ByteArray × Int × Int × Int × Int × Int)
 | 0, _, _, _, _, _ => none
 | k + 1, x0, x1, x7, x8, x98 => if x98 = true then (if 0 ≤ (wrap64 (x8 + 1)) then (if (wrap64 (x8 + 1)) < (x0.size : Int) then ((casketref11_hex.f (bt x0 (wrap64 (x8 + 1)))).bind fun t360 => (if 0 ≤ (wrap64 (x8 + 2)) then (if (wrap64 (x8 + 2)) < (x0.size : Int) then ((casketref11_hex.f (bt x0 (wrap64 (x8 + 2)))).bind fun t361 => (if x7.length < 140737488355328 then (casketref11_text.l0 k x0 x1 (x7 ++ [(wrap64 ((wrap64 (16 * t360)) + t361)) % 256]) (wrap64 ((wrap64 (x8 + 2)) + 1))) else (none))) else (none)) else (none))) else (none)) else (none)) else ((casketref11_fault.f 61 x1).bind fun bt365 => (some (bt365.1, bt365.2.1, bt365.2.2.1, bt365.2.2.2.1, bt365.2.2.2.2.1, bt365.2.2.2.2.2.1, bt365.2.2.2.2.2.2.1, bt365.2.2.2.2.2.2.2)))
end
end Go.Proofs.YtjolkombhdibcaaDoor.Print
end
section
namespace Go.Proofs.YtjolkombhdibcaaDoor.Print
end Go.Proofs.YtjolkombhdibcaaDoor.Print
end
section
namespace Go.Proofs.YtjolkombhdibcaaDoor.Sp
open Go.RowKit Go.Proofs.YtjolkombhdibcaaDoorW.PrintWords Go.Proofs.YtjolkombhdibcaaDoorW.PrintMore Go.Proofs.YtjolkombhdibcaaDoor.Given Go.Proofs.YtjolkombhdibcaaDoor.Print
set_option linter.unusedVariables false
set_option linter.unusedSimpArgs false
theorem run_stop {p : UInt8 → Bool} {c : UInt8} (h : p c = false) (r : List UInt8) : Given.runN p (c :: r) = 0 := by
  unfold Given.runN
  rw [List.takeWhile_cons, h]; rfl
end Go.Proofs.YtjolkombhdibcaaDoor.Sp
end
section
namespace Go.Proofs.YtjolkombhdibcaaDoor.Sp
open Go.RowKit Go.Proofs.YtjolkombhdibcaaDoorW.PrintWords Go.Proofs.YtjolkombhdibcaaDoorW.PrintMore Go.Proofs.YtjolkombhdibcaaDoor.Given Go.Proofs.YtjolkombhdibcaaDoor.Print
set_option linter.unusedVariables false
set_option linter.unusedSimpArgs false
theorem wrapP {a b : Nat} (h : a + b ≤ 2000000) : wrap64 ((a : Int) + (b : Int)) = ((a + b : Nat) : Int) := by
  rw [w64 (by omega) (by omega)]; omega
def marks2 : List (List UInt8) := [[61, 61], [33, 61], [60, 61], [62, 61], [60, 60], [62, 62], [47, 47], [46, 46]]
def marks1 : List (List UInt8) := [[43], [45], [42], [47], [37], [38], [124], [94], [126], [60], [62], [61], [40], [41], [123], [125], [91], [93], [44], [59], [58]]
theorem marks_split : marksL = marks2 ++ marks1 := rfl
theorem find_len (n : Nat) (l : List UInt8) : ∀ (ms : List (List UInt8)), (∀ m ∈ ms, m.length = n) → ms.find? (fun m => Lib.hasPrefix l m) = if n ≤ l.length ∧ l.take n ∈ ms then some (l.take n) else none
  | [], _ => by simp
  | m :: ms, h => by
    have hm := h m (by simp)
    have hp : Lib.hasPrefix l m = true ↔ (n ≤ l.length ∧ l.take n = m) := by
      unfold Lib.hasPrefix
      rw [List.isPrefixOf_iff_prefix, List.prefix_iff_eq_take, hm]
      constructor
      · intro e
        refine ⟨?_, e.symm⟩
        have := congrArg List.length e
        rw [hm, List.length_take] at this
        omega
      · rintro ⟨_, e⟩; exact e.symm
    rw [List.find?_cons]
    by_cases hc : Lib.hasPrefix l m = true
    · rw [hc]
      obtain ⟨h1, h2⟩ := hp.1 hc
      rw [if_pos ⟨h1, by rw [h2]; simp⟩, h2]
    · rw [Bool.eq_false_iff.2 hc]
      dsimp only
      rw [find_len n l ms (fun m hm => h m (by simp [hm]))]
      by_cases h1 : n ≤ l.length
      · have : l.take n ≠ m := fun e => hc (hp.2 ⟨h1, e⟩)
        simp [h1, this]
      · simp [h1]
theorem markT_eq (c : UInt8) (r : List UInt8) : markT (c :: r) =
    if 2 ≤ (c :: r).length ∧ (c :: r).take 2 ∈ marks2 then tok 3 ((c :: r).take 2) 0 0 2 else if [c] ∈ marks1 then tok 3 [c] 0 0 1 else bad 60 := by
  unfold markT markOf
  rw [marks_split, List.find?_append, find_len 2 _ marks2 (by decide), find_len 1 _ marks1 (by decide)]
  by_cases h2 : 2 ≤ (c :: r).length ∧ (c :: r).take 2 ∈ marks2
  · rw [if_pos h2, if_pos h2]
    dsimp only [Option.some_or]
    have : ((c :: r).take 2).length = 2 := by rw [List.length_take]; omega
    rw [this]; rfl
  · rw [if_neg h2, if_neg h2]
    have h1 : (c :: r).take 1 = [c] := rfl
    rw [h1]
    by_cases h3 : [c] ∈ marks1
    · rw [if_pos ⟨by simp, h3⟩, if_pos h3]; rfl
    · rw [if_neg (fun e => h3 e.2), if_neg h3]; rfl
end Go.Proofs.YtjolkombhdibcaaDoor.Sp
end
section
namespace Go.Proofs.YtjolkombhdibcaaDoor.Sp
open Go.RowKit Go.Proofs.YtjolkombhdibcaaDoorW.PrintWords Go.Proofs.YtjolkombhdibcaaDoorW.PrintMore Go.Proofs.YtjolkombhdibcaaDoor.Given Go.Proofs.YtjolkombhdibcaaDoor.Print
set_option linter.unusedVariables false
set_option linter.unusedSimpArgs false
theorem tw_app {p : UInt8 → Bool} {d : UInt8} (hd : p d = false) (m : List UInt8) : ∀ l : List UInt8, (l ++ d :: m).takeWhile p = l.takeWhile p
  | [] => by rw [List.nil_append, List.takeWhile_cons, hd]; rfl
  | c :: l => by
    rw [List.cons_append, List.takeWhile_cons, List.takeWhile_cons, tw_app hd m l]
theorem run_app10 {p : UInt8 → Bool} (hd : p 10 = false) (m l : List UInt8) : Given.runN p (l ++ 10 :: m) = Given.runN p l := by
  unfold Given.runN
  rw [tw_app hd m l]
theorem pre_app {l q : List UInt8} (hq : ∀ c ∈ q, c ≠ 10) (m : List UInt8) : Lib.hasPrefix (l ++ 10 :: m) q = Lib.hasPrefix l q := by
  unfold Lib.hasPrefix
  induction q generalizing l with
  | nil => cases l <;> rfl
  | cons d q ih =>
    cases l with
    | nil =>
      rw [List.nil_append]
      have : d ≠ 10 := hq d (by simp)
      simp [List.isPrefixOf, this]
    | cons c l =>
      rw [List.cons_append]
      simp only [List.isPrefixOf]
      rw [ih (fun x hx => hq x (by simp [hx]))]
theorem expN_app (m l : List UInt8) : expN (l ++ 10 :: m) = expN l := by
  have hd : isDig 10 = false := by decide
  match l with
  | [] => unfold expN; dsimp only [List.nil_append]; exact run_stop hd m
  | c :: r =>
    by_cases h1 : c = 43
    · subst h1
      show 1 + Given.runN isDig (r ++ 10 :: m) = 1 + Given.runN isDig r
      rw [run_app10 hd]
    · by_cases h2 : c = 45
      · subst h2
        show 1 + Given.runN isDig (r ++ 10 :: m) = 1 + Given.runN isDig r
        rw [run_app10 hd]
      · have e : ∀ s : List UInt8, expN (c :: s) = Given.runN isDig (c :: s) := by
          intro s
          unfold expN
          split
          · rename_i h; exact absurd (List.cons.inj h).1 h1
          · rename_i h; exact absurd (List.cons.inj h).1 h2
          · rfl
        rw [List.cons_append, e, e, ← List.cons_append, run_app10 hd]
theorem tailN_app (m l : List UInt8) : tailN (l ++ 10 :: m) = tailN l := by
  match l with
  | [] => rfl
  | c :: r =>
    by_cases h : c = 112
    · subst h
      show 1 + expN (r ++ 10 :: m) = 1 + expN r
      rw [expN_app]
    · have e : ∀ s : List UInt8, tailN (c :: s) = 0 := by
        intro s
        unfold tailN
        split
        · rename_i h'; exact absurd (List.cons.inj h').1 h
        · rfl
      rw [List.cons_append, e, e]
theorem dblN_app (m l : List UInt8) (h : 2 ≤ l.length) : dblN (l ++ 10 :: m) = dblN l := by
  have hle := runN_le dotB (l.drop 2)
  rw [List.length_drop] at hle
  unfold dblN
  rw [List.drop_append_of_le_length h, run_app10 (by decide), List.drop_append_of_le_length (by omega), tailN_app]
theorem dblN_le (l : List UInt8) (h : 2 ≤ l.length) : dblN l ≤ l.length := by
  have hle := runN_le dotB (l.drop 2)
  rw [List.length_drop] at hle
  have h1 : ∀ s : List UInt8, expN s ≤ s.length := by
    intro s
    unfold expN
    split
    · have := runN_le isDig ‹_›; simp; omega
    · have := runN_le isDig ‹_›; simp; omega
    · exact runN_le _ _
  have h2 : ∀ s : List UInt8, tailN s ≤ s.length := by
    intro s
    unfold tailN
    split
    · have := h1 ‹_›; simp; omega
    · omega
  have h3 := h2 (l.drop (2 + Given.runN dotB (l.drop 2)))
  rw [List.length_drop] at h3
  unfold dblN
  omega
theorem qS_app (m : List UInt8) : ∀ (k : Nat) (r b : List UInt8) (n : Nat), r.length ≤ k → qS (r ++ 10 :: m) b n = qS r b n := by
  intro k
  induction k with
  | zero =>
    intro r b n h
    have : r = [] := List.eq_nil_of_length_eq_zero (by omega)
    subst this
    rw [List.nil_append, qS_nil, qS_cons, if_neg (by decide), if_neg (by decide), if_neg (by decide)]
  | succ k ih =>
    intro r b n h
    cases r with
    | nil => rw [List.nil_append, qS_nil, qS_cons, if_neg (by decide), if_neg (by decide), if_neg (by decide)]
    | cons c r =>
      have hr : r.length ≤ k := by simpa using h
      rw [List.cons_append, qS_cons, qS_cons]
      by_cases h34 : c = 34
      · rw [if_pos h34, if_pos h34]
      · rw [if_neg h34, if_neg h34]
        by_cases h92 : c = 92
        · rw [if_pos h92, if_pos h92]
          cases r with
          | nil =>
            rw [List.nil_append]
            dsimp only
            rw [if_neg (by decide), if_neg (by decide), if_neg (by decide)]
          | cons d r1 =>
            rw [List.cons_append]
            dsimp only
            have hm1 : r1.length ≤ k := by simp at hr; omega
            rw [ih r1 _ _ hm1, ih r1 _ _ hm1]
            by_cases hd : d = 92 ∨ d = 34
            · rw [if_pos hd, if_pos hd]
            · rw [if_neg hd, if_neg hd]
              by_cases h110 : d = 110
              · rw [if_pos h110, if_pos h110]
              · rw [if_neg h110, if_neg h110]
                by_cases h120 : d = 120
                · rw [if_pos h120, if_pos h120]
                  match r1, hm1 with
                  | [], _ =>
                    cases m with
                    | nil => rfl
                    | cons a m =>
                      show (match hexV 10, hexV a with | some x, some y => qS m (b ++ [UInt8.ofNat (16 * x + y)]) (n + 4) | _, _ => bad 61) = bad 61
                      have : hexV 10 = none := by decide
                      rw [this]
                  | [a], _ =>
                    show (match hexV a, hexV 10 with | some x, some y => qS m (b ++ [UInt8.ofNat (16 * x + y)]) (n + 4) | _, _ => bad 61) = bad 61
                    have : hexV 10 = none := by decide
                    rw [this]
                    cases hexV a <;> rfl
                  | a :: a2 :: r2, hm1 =>
                    rw [List.cons_append, List.cons_append]
                    dsimp only
                    cases hexV a with
                    | none => rfl
                    | some x =>
                      cases hexV a2 with
                      | none => rfl
                      | some y =>
                        dsimp only
                        exact ih r2 _ _ (by simp at hm1; omega)
                · rw [if_neg h120, if_neg h120]
        · rw [if_neg h92, if_neg h92, ih r _ _ hr]
theorem markT_app (m : List UInt8) (c : UInt8) (r : List UInt8) : markT (c :: r ++ 10 :: m) = markT (c :: r) := by
  rw [List.cons_append, markT_eq, markT_eq]
  cases r with
  | nil =>
    have h1 : ∀ x ∈ marks2, x.getD 1 0 ≠ 10 := by decide
    have n1 : ¬ (2 ≤ (c :: ([] ++ 10 :: m)).length ∧ (c :: ([] ++ 10 :: m)).take 2 ∈ marks2) := fun h => h1 _ h.2 rfl
    have n2 : ¬ (2 ≤ [c].length ∧ [c].take 2 ∈ marks2) := fun h => by simp at h
    rw [if_neg n1, if_neg n2]
  | cons d r =>
    have e : (c :: (d :: r ++ 10 :: m)).take 2 = (c :: d :: r).take 2 := rfl
    rw [e]
    by_cases h : (c :: d :: r).take 2 ∈ marks2
    · rw [if_pos ⟨by simp, h⟩, if_pos ⟨by simp, h⟩]
    · have n1 : ¬ (2 ≤ (c :: (d :: r ++ 10 :: m)).length ∧ (c :: d :: r).take 2 ∈ marks2) := fun e => h e.2
      have n2 : ¬ (2 ≤ (c :: d :: r).length ∧ (c :: d :: r).take 2 ∈ marks2) := fun e => h e.2
      rw [if_neg n1, if_neg n2]
theorem next_app (m : List UInt8) (c : UInt8) (r : List UInt8) : nextT (c :: r ++ 10 :: m) = nextT (c :: r) := by
  rw [List.cons_append, nextT_cons, nextT_cons]
  by_cases h1 : lowB c = true
  · rw [if_pos h1, if_pos h1, ← List.cons_append, tw_app (by decide)]
  · rw [if_neg h1, if_neg h1, ← List.cons_append, pre_app (by decide)]
    by_cases h2 : Lib.hasPrefix (c :: r) [48, 120] = true
    · rw [if_pos h2, if_pos h2]
      have hl : 2 ≤ (c :: r).length := by
        rcases pre2 (c :: r) with ⟨_, q, hq, _⟩ | ⟨hn, _, _⟩
        · rw [hq]; simp
        · rw [hn] at h2; cases h2
      rw [dblN_app m _ hl, List.take_append_of_le_length (dblN_le _ hl)]
    · rw [if_neg h2, if_neg h2]
      by_cases h3 : isDig c = true
      · rw [if_pos h3, if_pos h3, tw_app (by decide)]
      · rw [if_neg h3, if_neg h3]
        by_cases h4 : c = 34
        · rw [if_pos h4, if_pos h4, qS_app m _ r [] 1 (Nat.le_refl _)]
        · rw [if_neg h4, if_neg h4, markT_app]
def shT (d : Nat) (t : S30) : S30 := ⟨t.f0, t.f1 + d, t.f2, t.f3, t.f4⟩
def shiftE (d : Nat) (x : E) : E := if x.2.1 = 0 then (shT d x.1, 0, x.2.2) else (x.1, x.2.1, x.2.2 + d)
theorem toks_shift (d : Nat) : ∀ (k : Nat) (l : List UInt8) (p : Nat), l.length ≤ k → toks l (p + d) = (toks l p).map (shiftE d) := by
  intro k
  induction k with
  | zero =>
    intro l p h
    have : l = [] := List.eq_nil_of_length_eq_zero (by omega)
    subst this
    rw [toks_nil, toks_nil]
    simp [endE, shiftE, shT]
  | succ k ih =>
    intro l p h
    cases l with
    | nil => rw [toks_nil, toks_nil]; simp [endE, shiftE, shT]
    | cons c r =>
      have hr : r.length ≤ k := by simpa using h
      by_cases hb : blank c
      · rw [toks_blank hb, toks_blank hb, show p + d + 1 = p + 1 + d by omega]
        exact ih r (p + 1) hr
      · by_cases h35 : c = 35
        · subst h35
          rw [toks_hash, toks_hash, show p + d + (1 + Given.runN lineB r) = p + (1 + Given.runN lineB r) + d by omega]
          exact ih _ _ (by simp; omega)
        · by_cases ht : te (nextT (c :: r)) = 0
          · obtain ⟨n, n1, n2, n3⟩ := next_n c r ht
            rw [toks_tok hb h35 r (p + d) n ht n1, toks_tok hb h35 r p n ht n1, show p + d + n = p + n + d by omega, ih _ _ (by rw [List.length_drop]; simp; omega)]
            simp [shiftE, shT, tk]
          · rw [toks_bad hb h35 r (p + d) ht, toks_bad hb h35 r p ht]
            simp [shiftE, ht]
def okE (ys : List E) : Prop := ∀ x ∈ ys, x.2.1 = 0
theorem toks_last : ∀ (k : Nat) (l : List UInt8) (p : Nat), l.length ≤ k → okE (toks l p) → ∃ ys, toks l p = ys ++ [endE (p + l.length)] := by
  intro k
  induction k with
  | zero =>
    intro l p h _
    have : l = [] := List.eq_nil_of_length_eq_zero (by omega)
    subst this
    exact ⟨[], by rw [toks_nil]; rfl⟩
  | succ k ih =>
    intro l p h ho
    cases l with
    | nil => exact ⟨[], by rw [toks_nil]; rfl⟩
    | cons c r =>
      have hr : r.length ≤ k := by simpa using h
      by_cases hb : blank c
      · rw [toks_blank hb] at ho ⊢
        obtain ⟨ys, hy⟩ := ih r (p + 1) hr ho
        exact ⟨ys, by rw [hy, List.length_cons, show p + 1 + r.length = p + (r.length + 1) by omega]⟩
      · by_cases h35 : c = 35
        · subst h35
          have hle := runN_le lineB r
          rw [toks_hash] at ho ⊢
          obtain ⟨ys, hy⟩ := ih (r.drop (Given.runN lineB r)) _ (by simp; omega) ho
          exact ⟨ys, by rw [hy, List.length_drop, List.length_cons, show p + (1 + Given.runN lineB r) + (r.length - Given.runN lineB r) = p + (r.length + 1) by omega]⟩
        · by_cases ht : te (nextT (c :: r)) = 0
          · obtain ⟨n, n1, n2, n3⟩ := next_n c r ht
            rw [toks_tok hb h35 r p n ht n1] at ho ⊢
            obtain ⟨ys, hy⟩ := ih ((c :: r).drop n) (p + n) (by rw [List.length_drop]; simp; omega) (fun x hx => ho x (by simp [hx]))
            exact ⟨(tk (nextT (c :: r)) p, 0, 0) :: ys, by rw [hy, List.length_drop, show p + n + ((c :: r).length - n) = p + (c :: r).length by omega]; rfl⟩
          · rw [toks_bad hb h35 r p ht] at ho
            exact absurd (ho _ (List.mem_singleton.2 rfl)) ht
theorem toks_two (m : List UInt8) : ∀ (k : Nat) (l : List UInt8) (p : Nat), l.length ≤ k → okE (toks l p) → toks (l ++ 10 :: m) p = (toks l p).dropLast ++ toks m (p + (l.length + 1)) := by
  intro k
  induction k with
  | zero =>
    intro l p h _
    have : l = [] := List.eq_nil_of_length_eq_zero (by omega)
    subst this
    rw [List.nil_append, toks_blank (.inr (.inr rfl)), toks_nil]; rfl
  | succ k ih =>
    intro l p h ho
    cases l with
    | nil => rw [List.nil_append, toks_blank (.inr (.inr rfl)), toks_nil]; rfl
    | cons c r =>
      have hr : r.length ≤ k := by simpa using h
      rw [List.cons_append]
      by_cases hb : blank c
      · rw [toks_blank hb] at ho
        rw [toks_blank hb, toks_blank hb, ih r (p + 1) hr ho, List.length_cons, show p + 1 + (r.length + 1) = p + (r.length + 1 + 1) by omega]
      · by_cases h35 : c = 35
        · subst h35
          have hle := runN_le lineB r
          rw [toks_hash] at ho
          rw [toks_hash, toks_hash, run_app10 (by decide), List.drop_append_of_le_length hle, ih _ _ (by simp; omega) ho, List.length_drop, List.length_cons,
            show p + (1 + Given.runN lineB r) + (r.length - Given.runN lineB r + 1) = p + (r.length + 1 + 1) by omega]
        · by_cases ht : te (nextT (c :: r)) = 0
          · obtain ⟨n, n1, n2, n3⟩ := next_n c r ht
            have ha := next_app m c r
            rw [List.cons_append] at ha
            rw [toks_tok hb h35 r p n ht n1] at ho
            have ho' : okE (toks ((c :: r).drop n) (p + n)) := fun x hx => ho x (by simp [hx])
            rw [toks_tok hb h35 r p n ht n1, toks_tok hb h35 (r ++ 10 :: m) p n (by rw [ha]; exact ht) (by rw [ha]; exact n1), ha, ← List.cons_append, List.drop_append_of_le_length n3,
              ih _ _ (by rw [List.length_drop]; simp; omega) ho', List.length_drop, show p + n + ((c :: r).length - n + 1) = p + ((c :: r).length + 1) by omega]
            obtain ⟨ys, hy⟩ := toks_last _ _ _ (Nat.le_refl _) ho'
            rw [hy, List.dropLast_concat]
            have e : ((tk (nextT (c :: r)) p, (0 : Int), (0 : Int)) :: (ys ++ [endE (p + n + (List.drop n (c :: r)).length)])).dropLast = (tk (nextT (c :: r)) p, 0, 0) :: ys := by
              rw [← List.cons_append, List.dropLast_concat]
            rw [e]
            rfl
          · rw [toks_bad hb h35 r p ht] at ho
            exact absurd (ho _ (List.mem_singleton.2 rfl)) ht
theorem col_cases : ∀ (ys : List E) (acc : List S30), (okE ys ∧ col acc ys = (acc ++ ys.map Prod.fst, 0, 0)) ∨
    ∃ (p : List E) (t : S30) (c a : Int) (r : List E), ys = p ++ (t, c, a) :: r ∧ okE p ∧ c ≠ 0 ∧ col acc ys = ([], c, a) := by
  intro ys
  induction ys with
  | nil => intro acc; exact .inl ⟨fun x hx => by simp at hx, by simp [col]⟩
  | cons y r ih =>
    intro acc
    obtain ⟨t, c, a⟩ := y
    by_cases h : c = 0
    · rw [col, if_pos h]
      rcases ih (acc ++ [t]) with ⟨h1, h2⟩ | ⟨p, t', c', a', r', h1, h2, h3, h4⟩
      · refine .inl ⟨fun x hx => ?_, by rw [h2]; simp⟩
        rcases List.mem_cons.1 hx with rfl | hx
        · exact h
        · exact h1 x hx
      · refine .inr ⟨(t, c, a) :: p, t', c', a', r', by rw [h1]; rfl, fun x hx => ?_, h3, h4⟩
        rcases List.mem_cons.1 hx with rfl | hx
        · exact h
        · exact h2 x hx
    · rw [col, if_neg h]
      exact .inr ⟨[], t, c, a, r, rfl, fun x hx => by simp at hx, h, rfl⟩
theorem map_ok {ys : List E} (d : Nat) (h : okE ys) : okE (ys.map (shiftE d)) ∧ (ys.map (shiftE d)).map Prod.fst = (ys.map Prod.fst).map (shT d) := by
  constructor
  · intro x hx
    obtain ⟨y, hy, rfl⟩ := List.mem_map.1 hx
    unfold shiftE
    rw [if_pos (h y hy)]
  · rw [List.map_map, List.map_map]
    refine List.map_congr_left (fun y hy => ?_)
    show (shiftE d y).1 = shT d y.1
    unfold shiftE
    rw [if_pos (h y hy)]
theorem two_all (a b : List UInt8) (ha : a.length ≤ 5000) (hb : b.length ≤ 5000) :
    ((allT a).2.1 ≠ 0 → (allT a).1 = []) ∧
    ((allT a).2.1 = 0 → (allT b).2.1 ≠ 0 → allT (a ++ 10 :: b) = ([], (allT b).2.1, (allT b).2.2 + ((a.length + 1 : Nat) : Int))) ∧
    ((allT a).2.1 = 0 → (allT b).2.1 = 0 → allT (a ++ 10 :: b) = ((allT a).1.dropLast ++ (allT b).1.map (shT (a.length + 1)), 0, 0) ∧ 1 ≤ (allT a).1.length) := by
  have ea : seqT a = toks a 0 := by unfold seqT; rw [if_neg (by omega)]
  have eb : seqT b = toks b 0 := by unfold seqT; rw [if_neg (by omega)]
  have ez : seqT (a ++ 10 :: b) = toks (a ++ 10 :: b) 0 := by unfold seqT; rw [if_neg (by simp; omega)]
  have hsh := toks_shift (a.length + 1) _ b 0 (Nat.le_refl _)
  unfold allT
  rw [ea, eb, ez]
  rcases col_cases (toks a 0) [] with ⟨h1, h2⟩ | ⟨p, t, c, q, r, h1, h2, h3, h4⟩
  · have hz := toks_two b _ a 0 (Nat.le_refl _) h1
    rw [Nat.zero_add] at hz
    rw [Nat.zero_add] at hsh
    rw [hsh] at hz
    have hdl : okE (toks a 0).dropLast := fun x hx => h1 x (List.dropLast_subset _ hx)
    have hlen := toks_ne _ a 0 (Nat.le_refl _)
    rw [hz, h2]
    refine ⟨fun h => absurd rfl h, ?_, ?_⟩
    · intro _ hg
      rcases col_cases (toks b 0) [] with ⟨g1, g2⟩ | ⟨p, t, c, q, r, g1, g2, g3, g4⟩
      · rw [g2] at hg; exact absurd rfl hg
      · rw [g4, g1, List.map_append, List.map_cons, ← List.append_assoc]
        have hx : shiftE (a.length + 1) (t, c, q) = (t, c, q + ((a.length + 1 : Nat) : Int)) := by unfold shiftE; rw [if_neg g3]
        rw [hx]
        refine col_stop _ [] t c _ _ (fun x hx => ?_) g3
        rcases List.mem_append.1 hx with hx | hx
        · exact hdl x hx
        · exact (map_ok _ g2).1 x hx
    · intro _ hg
      rcases col_cases (toks b 0) [] with ⟨g1, g2⟩ | ⟨p, t, c, q, r, g1, g2, g3, g4⟩
      · rw [g2]
        refine ⟨?_, by simp; omega⟩
        rw [col_all _ _ (fun x hx => by
          rcases List.mem_append.1 hx with hx | hx
          · exact hdl x hx
          · exact (map_ok _ g1).1 x hx)]
        rw [List.map_append, (map_ok _ g1).2, List.map_dropLast]
        simp
      · rw [g4] at hg; exact absurd hg g3
  · rw [h4]
    refine ⟨fun _ => rfl, fun h => absurd h h3, fun h => absurd h h3⟩
end Go.Proofs.YtjolkombhdibcaaDoor.Sp
end
section
namespace Go.Proofs.YtjolkombhdibcaaDoor.Given
open Go.RowKit Go.Shelf Go.Proofs.YtjolkombhdibcaaDoorW.PrintWords Go.Proofs.YtjolkombhdibcaaDoorW.PrintMore Go.Proofs.YtjolkombhdibcaaDoor.Print Go.Proofs.YtjolkombhdibcaaDoor.Sp
set_option linter.unusedVariables false
set_option linter.unusedSimpArgs false
attribute [local go_sem] Oper.semAt_some
abbrev enE (x : E) : Array Value := #[.agg #[.int .i64 x.1.f0, .int .i64 x.1.f1, .string x.1.f2, .int .i64 x.1.f3, .int .u64 x.1.f4], .agg #[.int .i64 x.2.1, .int .i64 x.2.2]]
def KpT (n0 Bn : Nat) (W W' : World) : Prop := Below n0 W W' ∧ W'.cell? ⟨Bn, 0, none⟩ = W.cell? ⟨Bn, 0, none⟩
theorem wide_scope {n : Nat} {P : Program} {c : Code} {Q : Exit → Act → World → Prop} {a : Act} {w : World} (h : c.wpIn Fence.wide n P (Exit.noGoto Q) a w) : (Code.scope c).wpIn Fence.wide n P Q a w :=
  wpIn_wide.2 (wp_scope_straight (wpIn_wide.1 h))
theorem lexNext_plain (S : ByteArray) (k : Nat) (hk : k < S.size) (hS : S.size ≤ 1000000) {a1 a2 a4 a5 a6 a7 : Int} {a3 : ByteArray} (ht : nextT (S.data.toList.drop k) = (a1, a2, a3, a4, a5, a6, a7)) (W : World) (hG : Glob W) :
    Calls Tryd.prog 20 #[.string (S.extract k S.size)] W fun e w' => e = .returned (.tuple #[.agg #[.int .i64 a1, .int .i64 a2, .string a3, .int .i64 a4, .int .u64 a5], .int .i64 a6, .int .i64 a7]) ∧ Below W.heap.size W w' := by
  have hd := drop_cons' S k hk
  have hx : S.extract k S.size = bs (S.data.toList.drop k) := bs_from S.data.toList k
  have hl : (S.data.toList.drop k).length ≤ 1000000 := by simp; omega
  rw [hd] at ht hx hl
  obtain ⟨K, hK⟩ := next_ev _ _ hl
  have hf : lex_next.f K (bs (S[k] :: S.data.toList.drop (k + 1))) = some (nextT (S[k] :: S.data.toList.drop (k + 1))) := hK K (Nat.le_refl K)
  rw [ht] at hf
  rw [hx]
  exact lex_next.calls K _ _ _ _ _ _ _ _ W hG hf
set_option maxRecDepth 100000 in
set_option maxHeartbeats 2000000 in
theorem toks1 (n : Nat) (hn : 1 ≤ n) (l Bn n0 : Nat) (S : ByteArray) (hS : S.size ≤ 65536) (J Jx : List E → World → Prop) (W : World)
    (hJ : AbidesFrom W.heap.size J)
    (hY : ∀ pre x W1, J pre W1 → pre.length < (toks S.data.toList 0).length → YieldAt Fence.wide (n - 1) Tryd.prog l (enE x) W1 fun e W' =>
      (e = .returned (.bool true) ∧ J (pre ++ [x]) W' ∧ KpT n0 Bn W1 W') ∨ (e = .returned (.bool false) ∧ Jx (pre ++ [x]) W'))
    (hG : Glob W) (hGn : ∀ A B, Glob A → Below n0 A B → Glob B) (hBox : W.cell? ⟨Bn, 0, none⟩ = some (.string S)) (h0 : J [] W) :
    CallsIn Fence.wide n Tryd.prog 17 #[.func (.yield l) #[] #[], .pointer (some ⟨Bn, 0, none⟩)] W fun e W' => (∃ v, e = .returned v) ∧
      ((∃ ys, ys = toks S.data.toList 0 ∧ J ys W') ∨ (∃ pre, pre <+: toks S.data.toList 0 ∧ Jx pre W')) := by
  have hu30 := Tryd.underlying30
  have hu25 := Tryd.underlying25
  have hsz : ((S.size : Int) > 65536) = False := eq_false (by omega)
  refine callsIn_of_wp Tryd.func17 rfl trivial ?_ rfl
  simp only [Tryd.ntmps17, List.size_toArray, List.length_cons, List.length_nil, Nat.reduceAdd, Nat.reduceSub, Array.replicate_succ, Array.replicate_zero, List.push_toArray, List.append_toArray, List.nil_append, List.cons_append]
  have keep : ∀ (pre : List E) (A B : World), (J pre A ∧ Glob A ∧ A.cell? ⟨Bn, 0, none⟩ = some (.string S)) → Below A.heap.size A B → (J pre B ∧ Glob B ∧ B.cell? ⟨Bn, 0, none⟩ = some (.string S)) :=
    fun pre A B h hb => ⟨hJ _ A B none h.1 (grown_of_below hb none) (by simp), h.2.1.at_ hb, pw_cell_below hb h.2.2⟩
  have KEEP := Aside0.mk keep
  clear keep
  refine wide_scope ?_
  gi_wp2
  apply wpIn_label
  gi_wp2
  gi_loopw [3] (fun p wr => ∃ k : Nat, p = .int .i64 k ∧ k ≤ S.size ∧ (∃ pre, Aside0 (J pre wr ∧ Glob wr ∧ wr.cell? ⟨Bn, 0, none⟩ = some (.string S)) ∧ toks S.data.toList 0 = pre ++ toks (S.data.toList.drop k) k)) (fun p _ => S.size - (intOf p).toNat)
  case atStart => exact ⟨0, rfl, Nat.zero_le _, [], ⟨h0, hG, hBox⟩, by simp⟩
  case round =>
    obtain ⟨k, rfl, hk, pre, hS0, hL⟩ := hrel
    have hBr := hS0.out.2.2
    by_cases hlt : k < S.size
    · have hd := drop_cons' S k hlt
      have hsl : S.size ≤ 9223372036854775807 := by omega
      by_cases e32 : (S[k].toNat : Int) = 32
      · have f32 : ((S[k].toNat : Int) == 32) = true := beq_iff_eq.2 e32
        have HN' := Aside0.mk (show toks S.data.toList 0 = pre ++ toks (S.data.toList.drop (k + 1)) (k + 1) by
          rw [hL, hd, toks_blank (by rw [show S[k] = 32 from u8_eq (n := 32) e32 (by decide)]; exact Or.inl rfl)])
        clear e32 hL hd
        gi_wp2
        go_roundw
        case rel => exact ⟨k + 1, by go_num, by omega, ⟨pre, hS0, HN'.out⟩⟩
        case measure => simp [intOf]; omega
      have f32 : ((S[k].toNat : Int) == 32) = false := beq_eq_false_iff_ne.2 e32
      by_cases e9 : (S[k].toNat : Int) = 9
      · have f9 : ((S[k].toNat : Int) == 9) = true := beq_iff_eq.2 e9
        have HN' := Aside0.mk (show toks S.data.toList 0 = pre ++ toks (S.data.toList.drop (k + 1)) (k + 1) by
          rw [hL, hd, toks_blank (by rw [show S[k] = 9 from u8_eq (n := 9) e9 (by decide)]; exact Or.inr (Or.inl rfl))])
        clear e9 hL hd
        gi_wp2
        go_roundw
        case rel => exact ⟨k + 1, by go_num, by omega, ⟨pre, hS0, HN'.out⟩⟩
        case measure => simp [intOf]; omega
      have f9 : ((S[k].toNat : Int) == 9) = false := beq_eq_false_iff_ne.2 e9
      by_cases e10 : (S[k].toNat : Int) = 10
      · have f10 : ((S[k].toNat : Int) == 10) = true := beq_iff_eq.2 e10
        have HN' := Aside0.mk (show toks S.data.toList 0 = pre ++ toks (S.data.toList.drop (k + 1)) (k + 1) by
          rw [hL, hd, toks_blank (by rw [show S[k] = 10 from u8_eq (n := 10) e10 (by decide)]; exact Or.inr (Or.inr rfl))])
        clear e10 hL hd
        gi_wp2
        go_roundw
        case rel => exact ⟨k + 1, by go_num, by omega, ⟨pre, hS0, HN'.out⟩⟩
        case measure => simp [intOf]; omega
      have f10 : ((S[k].toNat : Int) == 10) = false := beq_eq_false_iff_ne.2 e10
      by_cases e35 : (S[k].toNat : Int) = 35
      · have f35 : ((S[k].toNat : Int) == 35) = true := beq_iff_eq.2 e35
        have hc : S[k] = 35 := u8_eq (n := 35) e35 (by decide)
        obtain ⟨q, hq⟩ : ∃ q, Given.runN lineB (S.data.toList.drop (k + 1)) = q := ⟨_, rfl⟩
        have hqle : q ≤ S.size - (k + 1) := by have := runN_le lineB (S.data.toList.drop (k + 1)); rw [hq] at this; simpa using this
        have HN' := Aside0.mk (show toks S.data.toList 0 = pre ++ toks (S.data.toList.drop (k + (1 + q))) (k + (1 + q)) by
          rw [hL, hd, hc, toks_hash, hq, List.drop_drop, show k + 1 + q = k + (1 + q) by omega])
        have hrun : ∀ W, Calls Tryd.prog 18 #[.string S, .int .i64 k, .func (.func 19) #[] #[]] W fun e w' => e = .returned (.int .i64 ((1 + q : Nat) : Int)) ∧ Drawn0 W w' := fun W => lex_run.calls19 S k _ W (by
          unfold lex_run.f
          have hrunF : runF 8800000019 = lineB := rfl
          rw [if_pos ⟨by omega, by omega, by unfold maxLen; omega⟩, Int.toNat_natCast, hrunF, hd, hc, run_cons (by decide), hq])
        have HRUN := Aside0.mk hrun
        clear e35 hc hL hd hq hrun
        gi_wp2_with (refine ⟨trivial, ?_⟩; gi_at_call 18; refine (callsIn_wide.2 (HRUN.out _)).mono ?_; rintro e w' ⟨rfl, hdr⟩)
        go_roundw
        case rel => exact ⟨k + (1 + q), by go_num, by omega, ⟨pre, ⟨KEEP.out _ _ _ hS0.out hdr.below⟩, HN'.out⟩⟩
        case measure => simp [intOf]; omega
      have f35 : ((S[k].toNat : Int) == 35) = false := beq_eq_false_iff_ne.2 e35
      obtain ⟨a1, a2, a3, a4, a5, a6, a7, ht⟩ : ∃ a1 a2 a3 a4 a5 a6 a7, nextT (S.data.toList.drop k) = (a1, a2, a3, a4, a5, a6, a7) := ⟨_, _, _, _, _, _, _, rfl⟩
      have HX := Aside0.mk (lexNext_plain S k hlt (by omega) ht)
      have hnb : ¬ Sp.blank S[k] := by
        rintro (h | h | h)
        · exact e32 (by rw [h]; rfl)
        · exact e9 (by rw [h]; rfl)
        · exact e10 (by rw [h]; rfl)
      have hn35 : S[k] ≠ 35 := fun h => e35 (by rw [h]; rfl)
      rw [hd] at ht
      have HY := Aside0.mk hY
      by_cases h7 : a7 = 0
      · subst h7
        have hte : te (nextT (S[k] :: S.data.toList.drop (k + 1))) = 0 := by rw [ht]; rfl
        obtain ⟨q, hq, hq1, hq2⟩ := next_n _ _ hte
        have hq6 : a6 = q := by rw [ht] at hq; exact hq
        subst hq6
        have hqle : k + q ≤ S.size := by
          rw [← hd, List.length_drop] at hq2
          have : S.data.toList.length = S.size := by simp
          omega
        have HN' := Aside0.mk (show toks S.data.toList 0 = (pre ++ [((⟨a1, k, a3, a4, a5⟩ : S30), (0 : Int), (0 : Int))]) ++ toks (S.data.toList.drop (k + q)) (k + q) by
          rw [hL, hd, toks_tok hnb hn35 _ k q hte hq, ← hd, List.drop_drop, hd, ht]; simp [tk])
        have HLEN := Aside0.mk (show pre.length < (toks S.data.toList 0).length by rw [HN'.out]; simp)
        clear e32 e9 e10 e35 hd ht hte hq hq2 hnb hn35 hL
        gi_wp2_with (refine ⟨trivial, ?_⟩; gi_at_call 20; refine (callsIn_wide.2 (HX.out _ hS0.out.2.1)).mono ?_; rintro e w1 ⟨rfl, hb⟩; have hS1 := KEEP.out _ _ _ hS0.out (below_alloc hb (.cells #[.int .i64 a1, .int .i64 k, .string a3, .int .i64 a4, .int .u64 a5] 30)); obtain ⟨fn, tmps, assign, body, hy, hR⟩ := HY.out pre ((⟨a1, k, a3, a4, a5⟩ : S30), (0 : Int), (0 : Int)) _ hS1.1 HLEN.out; dsimp only [enE] at hy)
        refine hR.mono ?_
        rintro e W3 (⟨rfl, hJ3, hk3⟩ | ⟨rfl, hJx3⟩)
        · have hS3 := Aside0.mk (show J _ W3 ∧ Glob W3 ∧ W3.cell? ⟨Bn, 0, none⟩ = some (.string S) from ⟨hJ3, hGn _ _ hS1.2.1 hk3.1, hk3.2.trans hS1.2.2⟩)
          gi_wp2
          go_roundw
          case rel => exact ⟨k + q, by go_num, by omega, _, hS3, HN'.out⟩
          case measure => simp [intOf]; omega
        · have HP := Aside0.mk (show pre ++ [((⟨a1, k, a3, a4, a5⟩ : S30), (0 : Int), (0 : Int))] <+: toks S.data.toList 0 by rw [HN'.out]; exact List.prefix_append _ _)
          gi_wp2
          rw [Exit.noGoto_ret]
          refine bodyPost_ret (results_none rfl _ _ _) rfl ?_
          exact ⟨⟨_, rfl⟩, .inr ⟨_, HP.out, hJx3⟩⟩
      · have f7 : (a7 == 0) = false := beq_eq_false_iff_ne.2 h7
        have g7 : (a7 != 0) = true := bne_iff_ne.2 h7
        have HN' := Aside0.mk (show toks S.data.toList 0 = pre ++ [(z30, a7, (k : Int))] by
          rw [hL, hd, toks_bad hnb hn35 _ k (by rw [ht]; exact h7), ht]; rfl)
        have HLEN := Aside0.mk (show pre.length < (toks S.data.toList 0).length by rw [HN'.out]; simp)
        clear e32 e9 e10 e35 h7 hd ht hnb hn35 hL
        gi_wp2_with (refine ⟨trivial, ?_⟩; gi_at_call 20; refine (callsIn_wide.2 (HX.out _ hS0.out.2.1)).mono ?_; rintro e w1 ⟨rfl, hb⟩; have hS1 := KEEP.out _ _ _ hS0.out (below_alloc hb (.cells #[.int .i64 a1, .int .i64 a2, .string a3, .int .i64 a4, .int .u64 a5] 30)); obtain ⟨fn, tmps, assign, body, hy, hR⟩ := HY.out pre (z30, a7, (k : Int)) _ hS1.1 HLEN.out; dsimp only [enE, z30] at hy)
        refine hR.mono ?_
        rintro e W3 (⟨rfl, hJ3, hk3⟩ | ⟨rfl, hJx3⟩)
        · gi_wp2
          rw [Exit.noGoto_ret]
          refine bodyPost_ret (results_none rfl _ _ _) rfl ?_
          exact ⟨⟨_, rfl⟩, .inl ⟨_, rfl, by rw [HN'.out]; exact hJ3⟩⟩
        · gi_wp2
          rw [Exit.noGoto_ret]
          refine bodyPost_ret (results_none rfl _ _ _) rfl ?_
          exact ⟨⟨_, rfl⟩, .inr ⟨_, by rw [HN'.out]; exact List.prefix_rfl, hJx3⟩⟩
    · obtain rfl : k = S.size := by omega
      have HN' := Aside0.mk (show toks S.data.toList 0 = pre ++ [endE S.size] by
        rw [hL, List.drop_eq_nil_of_le (by simp), toks_nil])
      have HLEN := Aside0.mk (show pre.length < (toks S.data.toList 0).length by rw [HN'.out]; simp)
      obtain ⟨fn, tmps, assign, body, hy, hR⟩ := hY pre (endE S.size) wr hS0.out.1 HLEN.out
      dsimp only [enE, endE] at hy
      gi_wp2
      refine hR.mono ?_
      rintro e W3 (⟨rfl, hJ3, hk3⟩ | ⟨rfl, hJx3⟩)
      · gi_wp2
        rw [Exit.noGoto_normal]
        go_end0
        exact ⟨⟨_, rfl⟩, .inl ⟨_, rfl, by rw [HN'.out]; exact hJ3⟩⟩
      · gi_wp2
        rw [Exit.noGoto_normal]
        go_end0
        exact ⟨⟨_, rfl⟩, .inr ⟨_, by rw [HN'.out]; exact List.prefix_rfl, hJx3⟩⟩
end Go.Proofs.YtjolkombhdibcaaDoor.Given
end
section
namespace Go.Proofs.YtjolkombhdibcaaDoor.Given
open Go.RowKit Go.Shelf Go.Proofs.YtjolkombhdibcaaDoorW.PrintWords Go.Proofs.YtjolkombhdibcaaDoorW.PrintMore Go.Proofs.YtjolkombhdibcaaDoor.Print Go.Proofs.YtjolkombhdibcaaDoor.Sp
set_option linter.unusedVariables false
set_option linter.unusedSimpArgs false
attribute [local go_sem] Oper.semAt_some
theorem Glob.atN {B : Nat} {w w' : World} (h : Glob w) (hn : 5 ≤ B) (hb : Below B w w') : Glob w' := by
  obtain ⟨h1, h2, ⟨t3, p3, h3⟩, ⟨t4, p4, h4⟩, h5⟩ := h
  refine ⟨var?_below hb g_pow (by omega) h1, fun j hj => ?_, ⟨t3, p3, var?_below hb g_syn (by omega) h3⟩, ⟨t4, p4, var?_below hb g_rng (by omega) h4⟩, Nat.le_trans h5 hb.size⟩
  rw [hb.cell (p := ⟨0, j, none⟩) (by simp; omega)]; exact h2 j hj
theorem KpT.trans {n0 Bn : Nat} {A B C : World} (h : KpT n0 Bn A B) (k : KpT n0 Bn B C) : KpT n0 Bn A C := ⟨h.1.trans k.1, k.2.trans h.2⟩
theorem KpT.put {n0 Bn : Nat} {w : World} (hn : n0 ≤ w.heap.size) (hB : Bn < w.heap.size) (W : World) (l : Nat) (o o' : Obj) (hl : w.heap.size ≤ l) (h : W.heap[l]? = some o) (h1 : o.isCells = false) (h2 : o.isWalk = false) : KpT n0 Bn W (W.putObj l o') :=
  ⟨belowK_b hn W l o o' hl h h1 h2, World.cell?_of_block (World.putObj_heap_other (by show Bn ≠ l; omega))⟩
set_option maxRecDepth 100000 in
set_option maxHeartbeats 1000000 in

theorem toks0 (n : Nat) (hn : 1 ≤ n) (l Bn n0 : Nat) (S : ByteArray) (hS : 65536 < S.size) (J Jx : List E → World → Prop) (W : World)
    (hY : ∀ pre x W1, J pre W1 → pre.length < 1 → YieldAt Fence.wide (n - 1) Tryd.prog l (enE x) W1 fun e W' =>
      (e = .returned (.bool true) ∧ J (pre ++ [x]) W' ∧ KpT n0 Bn W1 W') ∨ (e = .returned (.bool false) ∧ Jx (pre ++ [x]) W'))
    (hBox : W.cell? ⟨Bn, 0, none⟩ = some (.string S)) (h0 : J [] W) :
    CallsIn Fence.wide n Tryd.prog 17 #[.func (.yield l) #[] #[], .pointer (some ⟨Bn, 0, none⟩)] W fun e W' => (∃ v, e = .returned v) ∧
      ((∃ ys, ys = [((z30, 2, 0) : E)] ∧ J ys W') ∨ (∃ pre, pre <+: [((z30, 2, 0) : E)] ∧ Jx pre W')) := by
  have hu30 := Tryd.underlying30
  have hu25 := Tryd.underlying25
  refine callsIn_of_wp Tryd.func17 rfl trivial ?_ rfl
  simp only [Tryd.ntmps17, List.size_toArray, List.length_cons, List.length_nil, Nat.reduceAdd, Nat.reduceSub, Array.replicate_succ, Array.replicate_zero, List.push_toArray, List.append_toArray, List.nil_append, List.cons_append]
  obtain ⟨fn, tmps, assign, body, hy, hR⟩ := hY [] (z30, 2, 0) W h0 (by simp)
  dsimp only [enE, z30] at hy
  have hsz : decide (65536 < S.size) = true := decide_eq_true hS
  refine wide_scope ?_
  gi_wp2
  refine hR.mono ?_
  rintro e W3 (⟨rfl, hJ3, hk3⟩ | ⟨rfl, hJx3⟩)
  · gi_wp2
    rw [Exit.noGoto_ret]
    refine bodyPost_ret (results_none rfl _ _ _) rfl ?_
    exact ⟨⟨_, rfl⟩, .inl ⟨_, rfl, hJ3⟩⟩
  · gi_wp2
    rw [Exit.noGoto_ret]
    refine bodyPost_ret (results_none rfl _ _ _) rfl ?_
    exact ⟨⟨_, rfl⟩, .inr ⟨_, List.prefix_rfl, hJx3⟩⟩
theorem tokens_stops (n : Nat) (hn : 1 ≤ n) (Bn n0 : Nat) (S : ByteArray) (w : World) (hBox : w.cell? ⟨Bn, 0, none⟩ = some (.string S)) (hn0 : 5 ≤ n0) (hG : Glob w) :
    SeqStopsK Fence.wide n Tryd.prog 17 #[.pointer (some ⟨Bn, 0, none⟩)] enE (KpT n0 Bn) (fun ys => ys = seqT S.data.toList) (fun pre => pre <+: seqT S.data.toList) (seqT S.data.toList).length w := fun l J Jx W hW hJ hJx hY h0 => by
  have hb := pw_cell_below hW hBox
  have hGW := hG.at_ hW
  have hl : S.data.toList.length = S.size := by simp
  by_cases hS : 65536 < S.size
  · have hq : seqT S.data.toList = [(z30, 2, 0)] := by unfold seqT; rw [if_pos (by omega)]
    rw [hq] at hY ⊢
    exact toks0 n hn l Bn n0 S hS J Jx W hY hb h0
  · have hq : seqT S.data.toList = toks S.data.toList 0 := by unfold seqT; rw [if_neg (by omega)]
    rw [hq] at hY ⊢
    exact toks1 n hn l Bn n0 S (by omega) J Jx W hJ hY hGW (fun A B h k => h.atN hn0 k) hb h0
set_option maxHeartbeats 1000000 in
theorem lex_Tokens.calls (S : ByteArray) (w : World) :
    Calls Tryd.prog 10 #[.string S] w fun e w' => e = .returned (.func (.func 17) #[] #[.pointer (some ⟨w.heap.size, 0, none⟩)]) ∧ w' = w.alloc (.cells #[.string S] 9) := by
  go_enter Tryd.func10, Tryd.ntmps10
  go_wp2
  go_ret
  exact ⟨rfl, rfl⟩
end Go.Proofs.YtjolkombhdibcaaDoor.Given
end
section
namespace Go.Proofs.YtjolkombhdibcaaDoor.Given
open Go.RowKit Go.Shelf Go.Proofs.YtjolkombhdibcaaDoorW.PrintWords Go.Proofs.YtjolkombhdibcaaDoorW.PrintMore Go.Proofs.YtjolkombhdibcaaDoor.Print Go.Proofs.YtjolkombhdibcaaDoor.Sp
set_option linter.unusedVariables false
set_option linter.unusedSimpArgs false
attribute [local go_sem] Oper.semAt_some
def cellsT (x : S30) : List Value := [.int .i64 x.f0, .int .i64 x.f1, .string x.f2, .int .i64 x.f3, .int .u64 x.f4]
def flatT (xs : List S30) : List Value := xs.flatMap cellsT
theorem flatT_snoc (xs : List S30) (x : S30) : flatT (xs ++ [x]) = flatT xs ++ cellsT x := by simp [flatT]
theorem reps_flat (w : World) (base : Nat) (ok : Nat → Prop) : ∀ (ys xs : List S30), Reps (k30.M w base ok) 5 xs (flatT xs) → Reps (k30.M w base ok) 5 (xs ++ ys) (flatT (xs ++ ys))
  | [], xs, h => by simpa using h
  | y :: ys, xs, h => by
    have h1 := h.snoc (k30_mkM w base ok y) rfl
    have h2 := reps_flat w base ok ys (xs ++ [y]) (by rw [flatT_snoc]; exact h1)
    rw [List.append_assoc] at h2
    exact h2
theorem row_flat {w : World} {base : Nat} {v : Value} {xs : List S30} (h : w.ownsRow base 30 5 v xs.length (flatT xs)) : Kd.R k30 30 w base (fun _ => True) v xs :=
  ⟨fun _ _ => trivial, flatT xs, h, by have := reps_flat w base (fun k => True ∧ some k ≠ v.ownBlock) xs [] (Reps.none _ _); rw [List.nil_append] at this; exact this⟩
def BoxN (W : World) (B : Nat) (t : TypeId) (cs : Array Value) : Prop := W.heap[B]? = some (.cells cs t (0, 0))
theorem boxN_own {β : Type} (B : Nat) (t : TypeId) (f : β → Array Value) : Own (fun s W => BoxN W B t (f s)) := fun s X Y row hs hg hrow =>
  blk_grown (show X.heap[B]? = _ from hs) hg (fun e' => by obtain ⟨o, ho, hc⟩ := hrow B e'.symm; rw [show X.heap[B]? = _ from hs] at ho; cases ho; cases hc)
theorem BoxN.not_row {W : World} {B : Nat} {t e : TypeId} {cs : Array Value} (h : BoxN W B t cs) (hte : t ≠ e) {base size k : Nat} {v : Value} {xs : List Value} (hr : W.ownsRow base e size v k xs) : some B ≠ v.ownBlock := fun e' => by
  obtain ⟨cells, hc⟩ := own_typed hr B e'.symm
  rw [show W.heap[B]? = _ from h] at hc
  simp at hc
  exact hte hc.2
theorem BoxN.appended {W w1 : World} {B B4 base k : Nat} {t : TypeId} {cs : Array Value} {v v' : Value} {xs : List Value} {tmp : Obj} (h : BoxN W B t cs) (hte : t ≠ 30) (hrow : W.ownsRow base 30 5 v k xs) (hg : (W.alloc tmp).grownBy w1 v.ownBlock) (hne : B ≠ B4) :
    BoxN (w1.setCell ⟨B4, 0, none⟩ v') B t cs := blk_far (blk_grown (blk_alloc h tmp) hg (h.not_row hte hrow)) hne _
theorem grownBy_cell (W : World) (b j : Nat) (v : Value) : W.grownBy (W.setCell ⟨b, j, none⟩ v) (some b) :=
  ⟨rfl, rfl, rfl, (KeepsWalks.setCell W _ v).size, fun k _ hk => Below.heap_setCell _ _ _ k (fun e => hk (by rw [e]))⟩
set_option maxRecDepth 100000 in
set_option maxHeartbeats 4000000 in
theorem all_any (S : ByteArray) (hS : S.size ≤ 1000000) (w : World) (hG : Glob w) :
    Calls Tryd.prog 9 #[.string S] w fun e W' => ∃ v, e = .returned (.tuple #[v, .agg #[.int .i64 (allT S.data.toList).2.1, .int .i64 (allT S.data.toList).2.2]]) ∧
      W'.ownsRow w.heap.size 30 5 v (allT S.data.toList).1.length (flatT (allT S.data.toList).1) ∧ Below w.heap.size w W' := by
  have hu30 := Tryd.underlying30
  have hu25 := Tryd.underlying25
  obtain ⟨i0, hi, hz0, hz1, hz2⟩ := info_parts info30
  refine (callsIn_wide (n := 9)).1 ?_
  refine callsIn_of_wp_marks Tryd.func9 rfl trivial ?_ rfl
  simp only [Tryd.ntmps9, List.size_toArray, List.length_cons, List.length_nil, Nat.reduceAdd, Nat.reduceSub, Array.replicate_succ, Array.replicate_zero, List.push_toArray, List.append_toArray, List.nil_append, List.cons_append]
  gi_wp2_with (refine ⟨trivial, ?_⟩; gi_at_call 10; refine (callsIn_wide.2 (lex_Tokens.calls S _)).mono ?_; rintro e w' ⟨rfl, rfl⟩)
  have b2 : BoxN (w.alloc (.cells #[.slice none 0 0] 22)) w.heap.size 22 #[.slice none 0 0] := blk_new w _
  have b3 := blk_new (w.alloc (.cells #[.slice none 0 0] 22)) (.cells #[.int .i64 0, .int .i64 0] 25)
  have b4 := Boxed.new ((w.alloc (.cells #[.slice none 0 0] 22)).alloc (.cells #[.int .i64 0, .int .i64 0] 25)) 22 (.slice none 0 0)
  have b5 := Boxed.new (((w.alloc (.cells #[.slice none 0 0] 22)).alloc (.cells #[.int .i64 0, .int .i64 0] 25)).alloc (.cells #[.slice none 0 0] 22)) 9 (.string S)
  have b2' := blk_alloc (blk_alloc (blk_alloc b2 (.cells #[.int .i64 0, .int .i64 0] 25)) (.cells #[.slice none 0 0] 22)) (.cells #[.string S] 9)
  have b3' := blk_alloc (blk_alloc b3 (.cells #[.slice none 0 0] 22)) (.cells #[.string S] 9)
  have b4' := b4.alloc (.cells #[.string S] 9)
  have hB0 : Below w.heap.size w ((((w.alloc (.cells #[.slice none 0 0] 22)).alloc (.cells #[.int .i64 0, .int .i64 0] 25)).alloc (.cells #[.slice none 0 0] 22)).alloc (.cells #[.string S] 9)) := below_alloc (below_alloc (below_alloc (below_alloc (Below.refl _ _) _) _) _) _
  have hsz : ((((w.alloc (.cells #[.slice none 0 0] 22)).alloc (.cells #[.int .i64 0, .int .i64 0] 25)).alloc (.cells #[.slice none 0 0] 22)).alloc (.cells #[.string S] 9)).heap.size = w.heap.size + 4 := by simp
  simp only [World.size_alloc] at b3' b4' b5
  clear b2 b3 b4
  generalize (((w.alloc (.cells #[.slice none 0 0] 22)).alloc (.cells #[.int .i64 0, .int .i64 0] 25)).alloc (.cells #[.slice none 0 0] 22)).alloc (.cells #[.string S] 9) = W0 at *
  have h5 := hG.2.2.2.2
  have hG0 := hG.at_ hB0
  refine wpIn_rangeFunc_ownH (α := E) rfl (by omega) (gf := 17) (lb := #[.pointer (some ⟨w.heap.size + 1 + 1 + 1, 0, none⟩)]) rfl trivial (enters_of Tryd.func17 (by kernel_rfl) rfl)
    (tokens_stops (9 - 1) (by omega) (w.heap.size + 1 + 1 + 1) w.heap.size S W0 b5.cell h5 hG0) KpT.trans (KpT.put (by omega) (by omega)) (Below.refl _ _) (fun _ => rfl)
    (fun (pre : List E) W => ((((∃ v, Boxed W (w.heap.size + 1 + 1) 22 v ∧ W.ownsRow w.heap.size 30 5 v pre.length (flatT (pre.map Prod.fst)) ∧ (∀ x ∈ pre, x.2.1 = 0)) ∧ BoxN W w.heap.size 22 #[.slice none 0 0]) ∧ BoxN W (w.heap.size + 1) 25 #[.int .i64 0, .int .i64 0]) ∧ Boxed W (w.heap.size + 1 + 1 + 1) 9 (.string S)) ∧ Below w.heap.size w W)
    (fun c (pre : List E) W => (c = .ret ∧ ∃ (p : List E) (t : S30) (cd a : Int), pre = p ++ [(t, cd, a)] ∧ (∀ x ∈ p, x.2.1 = 0) ∧ cd ≠ 0 ∧ BoxN W w.heap.size 22 #[.slice none 0 0] ∧ BoxN W (w.heap.size + 1) 25 #[.int .i64 cd, .int .i64 a]) ∧ Below w.heap.size w W)
    (OwnFrom.and (OwnFrom.and (OwnFrom.and (OwnFrom.and (Own.from (holdsRow_own w.heap.size (w.heap.size + 1 + 1) 22 30 5 (fun (pre : List E) => pre.length) (fun (pre : List E) => flatT (pre.map Prod.fst)) (fun (pre : List E) _ => ∀ x ∈ pre, x.2.1 = 0)) _) (Own.from (boxN_own _ _ _) _)) (Own.from (boxN_own _ _ _) _)) (Own.from (boxed_own _ _ _) _)) (ownFrom_below (Nat.le_refl _) (by omega)))
    (fun c => OwnFrom.and (Own.from (fun s X Y row hs hg hr => by
      obtain ⟨h1, p, t, cd, a, h2, h3, h4, h5, h6⟩ := hs
      exact ⟨h1, p, t, cd, a, h2, h3, h4, boxN_own _ _ (fun (_ : Unit) => _) () X Y row h5 hg hr, boxN_own _ _ (fun (_ : Unit) => _) () X Y row h6 hg hr⟩) _) (ownFrom_below (Nat.le_refl _) (by omega)))
    ⟨⟨⟨⟨⟨_, b4', World.ownsRow_nil _ _ _ _, by simp⟩, b2'⟩, b3'⟩, b5⟩, hB0⟩
    (fun (x : E) a' W => ∃ Bt Bf, w.heap.size + 3 < Bf ∧ BoxN W Bt 30 (cellsT x.1).toArray ∧ BoxN W Bf 25 #[.int .i64 x.2.1, .int .i64 x.2.2] ∧ a' = { tmps := #[.string S, undef, .pointer (some ⟨w.heap.size, 0, none⟩), .pointer (some ⟨w.heap.size + 1, 0, none⟩), .pointer (some ⟨w.heap.size + 1 + 1, 0, none⟩), .pointer (some ⟨Bt, 0, none⟩), .pointer (some ⟨Bf, 0, none⟩), .string S, .func (.func 17) #[] #[.pointer (some ⟨w.heap.size + 1 + 1 + 1, 0, none⟩)], .agg #[.int .i64 x.1.f0, .int .i64 x.1.f1, .string x.1.f2, .int .i64 x.1.f3, .int .u64 x.1.f4], .agg #[.int .i64 x.2.1, .int .i64 x.2.2], undef, undef, undef, undef, undef, undef, undef, undef, undef, undef], defers := [] })
    (fun x a' _ X Y row hs hg hr => by
      obtain ⟨Bt, Bf, h0, h1, h2, h3⟩ := hs
      exact ⟨Bt, Bf, h0, boxN_own _ _ (fun (_ : Unit) => _) () X Y row h1 hg (fun r e => (hr r e).2), boxN_own _ _ (fun (_ : Unit) => _) () X Y row h2 hg (fun r e => (hr r e).2), h3⟩)
    ?assign ?body ?done ?stop
  case assign =>
    rintro l pre x W K ⟨⟨⟨⟨⟨v, hv, hrow, hz⟩, c2⟩, c3⟩, c5⟩, hB⟩ hK
    gi_wp2
    have hBz := hB.size
    have hb1 : Below w.heap.size W ((W.alloc (.cells (cellsT x.1).toArray 30)).alloc (.cells #[.int .i64 x.2.1, .int .i64 x.2.2] 25)) := ((Below.refl _ W).alloc hBz _).alloc (by simp; omega) _
    have hn := blk_new (W.alloc (.cells (cellsT x.1).toArray 30)) (.cells #[.int .i64 x.2.1, .int .i64 x.2.2] 25)
    rw [World.size_alloc] at hn
    exact hK _ _ (((KeepsOthers.alloc W _).trans (KeepsOthers.alloc _ _)).from _) ⟨hb1, ((c5.alloc _).alloc _).cell.trans c5.cell.symm⟩
      ⟨⟨⟨⟨⟨v, (hv.alloc _).alloc _, (hrow.alloc _).alloc _, hz⟩, blk_alloc (blk_alloc c2 _) _⟩, blk_alloc (blk_alloc c3 _) _⟩, (c5.alloc _).alloc _⟩, hB.trans hb1⟩
      ⟨W.heap.size, W.heap.size + 1, by have := c5.lt; omega, blk_alloc (blk_new W _) _, hn, rfl⟩
  case body =>
    rintro l pre ⟨⟨f0, f1, f2, f3, f4⟩, cd, ad⟩ a' W hl ⟨r, hr⟩ ⟨⟨⟨⟨⟨v, hv, hrow, hz⟩, c2⟩, c3⟩, c5⟩, hB⟩ ⟨Bt, Bf, hBf, bT, bF, rfl⟩ hlt
    have hlen : pre.length ≤ 1000001 := by
      have h1 := seq_le S.data.toList
      have h2 : S.data.toList.length = S.size := by simp
      omega
    have hBz := hB.size
    have t0 : W.cell? ⟨Bt, 0, none⟩ = some (.int .i64 f0) := blk_cell bT 0
    have t1 : W.cell? ⟨Bt, 1, none⟩ = some (.int .i64 f1) := blk_cell bT 1
    have t2 : W.cell? ⟨Bt, 2, none⟩ = some (.string f2) := blk_cell bT 2
    have t3 : W.cell? ⟨Bt, 3, none⟩ = some (.int .i64 f3) := blk_cell bT 3
    have t4 : W.cell? ⟨Bt, 4, none⟩ = some (.int .u64 f4) := blk_cell bT 4
    have u0 : W.cell? ⟨Bf, 0, none⟩ = some (.int .i64 cd) := blk_cell bF 0
    have u1 : W.cell? ⟨Bf, 1, none⟩ = some (.int .i64 ad) := blk_cell bF 1
    have hc := hv.cell
    dsimp only
    by_cases hcd : cd = 0
    · subst hcd
      gi_wp2_with (gi_at_builtin; refine wpListIn_append_own _ rfl _ _ 22 rfl w.heap.size 30 i0 _ 5 48 Tryd.underlying22 hi hz0 hz1 hz2 rfl (by decide) v pre.length _ rfl (hrow.alloc _) ⟨W.heap.size, 0, none⟩ 1 1 (cellsT ⟨f0, f1, f2, f3, f4⟩) rfl rfl (World.news_of_block (cs := (cellsT ⟨f0, f1, f2, f3, f4⟩).toArray) (t := 30) (fr := (0, 0)) (heap_alloc_new W _)) (by simp [cellsT, Value.oneCell']) (by unfold maxLen; omega) (by omega) (by simp; omega) ?_; intro v' w1 hown' hgrow _; obtain ⟨g', cap', rfl⟩ := ownsRow_succ hown'; obtain ⟨hv1, hv2, hr2, hk2, hb2⟩ := hv.appended (by decide) hrow hBz (by omega) hown' hgrow; have hc1 := hv1.cell; have hf1 := hv1.frozen)
      have k2 := c2.appended (B4 := w.heap.size + 1 + 1) (v' := Value.slice (some ⟨g', 0, none⟩) (pre.length + 1) cap') (by decide) hrow hgrow (by omega)
      have k3 := c3.appended (B4 := w.heap.size + 1 + 1) (v' := Value.slice (some ⟨g', 0, none⟩) (pre.length + 1) cap') (by decide) hrow hgrow (by omega)
      have k5 : Boxed (w1.setCell ⟨w.heap.size + 1 + 1, 0, none⟩ (Value.slice (some ⟨g', 0, none⟩) (pre.length + 1) cap')) (w.heap.size + 1 + 1 + 1) 9 (.string S) := BoxN.appended (B4 := w.heap.size + 1 + 1) (v' := Value.slice (some ⟨g', 0, none⟩) (pre.length + 1) cap') c5 (by decide) hrow hgrow (by omega)
      have hz' : ∀ x ∈ pre ++ [(((⟨f0, f1, f2, f3, f4⟩ : S30), (0 : Int), ad) : E)], x.2.1 = 0 := by
        intro x hx
        rcases List.mem_append.1 hx with hx | hx
        · exact hz x hx
        · rw [List.mem_singleton.1 hx]
      exact ⟨hk2.from _, ⟨hb2, k5.cell.trans c5.cell.symm⟩, ⟨⟨⟨⟨_, hv2, by simpa [flatT_snoc] using hr2, fun a_ b_ c_ hx_ => hz' (a_, b_, c_) hx_⟩, k2⟩, k3⟩, k5⟩, hB.trans hb2⟩
    · have f7 : (cd == 0) = false := beq_eq_false_iff_ne.2 hcd
      have g7 : (cd != 0) = true := bne_iff_ne.2 hcd
      have x2 : W.cell? ⟨w.heap.size, 0, none⟩ = some (.slice none 0 0) := blk_cell c2 0
      have x3 : W.cell? ⟨w.heap.size + 1, 0, none⟩ = some (.int .i64 0) := blk_cell c3 0
      have x4 : W.cell? ⟨w.heap.size + 1, 1, none⟩ = some (.int .i64 0) := blk_cell c3 1
      have n2 : (Bf = w.heap.size) = False := eq_false (by omega)
      have n3 : (Bf = w.heap.size + 1) = False := eq_false (by omega)
      have m2 : (w.heap.size = Bf) = False := eq_false (by omega)
      have m3 : (w.heap.size + 1 = Bf) = False := eq_false (by omega)
      have y2 := blk_frozen c2 0
      have y3 := blk_frozen c3 0
      have y4 := blk_frozen c3 1
      gi_wp2
      have hmx : Tryd.prog.follows .mixedOrders = true := by kernel_rfl
      gi_region_with_o (fail)
      all_goals gi_wp2
      all_goals (try go_bits)
      all_goals exact ⟨((((KeepsOthers.setCell W _ _).trans (KeepsOthers.setCell _ _ _)).trans (KeepsOthers.setCell _ _ _)).trans (KeepsOthers.drew _)).from _,
        ⟨rfl, pre, _, cd, ad, rfl, hz, hcd, blk_drew (blk_far (blk_far (blk_set c2 0 _) (by show w.heap.size ≠ w.heap.size + 1; omega) _) (by show w.heap.size ≠ w.heap.size + 1; omega) _),
          blk_drew (blk_set (blk_set (blk_far c3 (by show w.heap.size + 1 ≠ w.heap.size; omega) _) 0 _) 1 _)⟩,
        below_drew (((hB.setCell (p := ⟨w.heap.size, 0, none⟩) (Nat.le_refl _) _).setCell (p := ⟨w.heap.size + 1, 0, none⟩) (Nat.le_succ _) _).setCell (p := ⟨w.heap.size + 1, 1, none⟩) (Nat.le_succ _) _)⟩
  case done =>
    rintro D ys W hD rfl ⟨⟨⟨⟨⟨v, hv, hrow, hz⟩, c2⟩, c3⟩, c5⟩, hB⟩ hK
    have hall : allT S.data.toList = ((seqT S.data.toList).map Prod.fst, 0, 0) := by unfold allT; rw [col_all _ _ hz]; rfl
    have hc := hv.cell
    have x2 : W.cell? ⟨w.heap.size, 0, none⟩ = some (.slice none 0 0) := blk_cell c2 0
    have x3 : W.cell? ⟨w.heap.size + 1, 0, none⟩ = some (.int .i64 0) := blk_cell c3 0
    have x4 : W.cell? ⟨w.heap.size + 1, 1, none⟩ = some (.int .i64 0) := blk_cell c3 1
    have y2 := blk_frozen c2 0
    have y3 := blk_frozen c3 0
    have y4 := blk_frozen c3 1
    obtain ⟨A, cp, rfl⟩ := own_slice hrow
    gi_wp2
    have hK' := (((KeepsOthers.setCell W ⟨w.heap.size, 0, none⟩ (.slice A (seqT S.data.toList).length cp)).trans (KeepsOthers.setCell _ ⟨w.heap.size + 1, 0, none⟩ (.int .i64 0))).trans (KeepsOthers.setCell _ ⟨w.heap.size + 1, 1, none⟩ (.int .i64 0))).same D _ hK rfl
    refine ⟨by simp, .inl ⟨_, _, rfl, run_takeDeferred hK', ?_⟩⟩
    have d2 := blk_far (blk_far (blk_set c2 0 (.slice A (seqT S.data.toList).length cp)) (p := ⟨w.heap.size + 1, 0, none⟩) (by show w.heap.size ≠ w.heap.size + 1; omega) (.int .i64 0)) (p := ⟨w.heap.size + 1, 1, none⟩) (by show w.heap.size ≠ w.heap.size + 1; omega) (.int .i64 0)
    have d3 := blk_set (blk_set (blk_far c3 (p := ⟨w.heap.size, 0, none⟩) (by show w.heap.size + 1 ≠ w.heap.size; omega) (.slice A (seqT S.data.toList).length cp)) 0 (.int .i64 0)) 1 (.int .i64 0)
    have k2 := blk_grown d2 (grownBy_putObj' _ D (.deferred none)) (fun e => by cases e; rw [d2] at hK'; cases hK')
    have k3 := blk_grown d3 (grownBy_putObj' _ D (.deferred none)) (fun e => by cases e; rw [d3] at hK'; cases hK')
    have z2 := blk_cell k2 0
    have z3 := blk_cell k3 0
    have z4 := blk_cell k3 1
    have r1 := hrow.kept (grownBy_cell W w.heap.size 0 (.slice A (seqT S.data.toList).length cp)) (.inr (Ne.symm (BoxN.not_row c2 (by decide) hrow)))
    have r2 := r1.kept (grownBy_cell _ (w.heap.size + 1) 0 (.int .i64 0)) (.inr (Ne.symm (BoxN.not_row c3 (by decide) hrow)))
    have r3 := r2.kept (grownBy_cell _ (w.heap.size + 1) 1 (.int .i64 0)) (.inr (Ne.symm (BoxN.not_row c3 (by decide) hrow)))
    have b3 := ((hB.setCell (p := ⟨w.heap.size, 0, none⟩) (Nat.le_refl _) (.slice A (seqT S.data.toList).length cp)).setCell (p := ⟨w.heap.size + 1, 0, none⟩) (Nat.le_succ _) (.int .i64 0)).setCell (p := ⟨w.heap.size + 1, 1, none⟩) (Nat.le_succ _) (.int .i64 0)
    refine ⟨.tuple #[.slice A (seqT S.data.toList).length cp, .agg #[.int .i64 0, .int .i64 0]], ?_, .slice A (seqT S.data.toList).length cp, by rw [hall], ?_, b3.trans (belowK_b (w := w) (Nat.le_refl _) _ D _ _ (by omega) hK' rfl rfl)⟩
    · simp [results, Tryd.f9, go_sem, z2, z3, z4]
    · rw [hall]
      have := ownsRow_putObj r3 (.deferred none) hK' rfl
      simpa using this
  case stop =>
    rintro D c pre W hD hpre ⟨⟨rfl, p, t, cd, ad, rfl, hz, hcd, c2, c3⟩, hB⟩ hK
    have hall : allT S.data.toList = ([], cd, ad) := by
      obtain ⟨rest, hr⟩ := hpre
      unfold allT
      rw [← hr, List.append_assoc]
      exact col_stop p [] t cd ad rest hz hcd
    gi_wp2
    refine ⟨by simp, .inl ⟨_, _, rfl, run_takeDeferred hK, ?_⟩⟩
    have k2 := blk_grown c2 (grownBy_putObj' W D (.deferred none)) (fun e => by cases e; rw [show W.heap[w.heap.size]? = _ from c2] at hK; cases hK)
    have k3 := blk_grown c3 (grownBy_putObj' W D (.deferred none)) (fun e => by cases e; rw [show W.heap[w.heap.size + 1]? = _ from c3] at hK; cases hK)
    have z2 := blk_cell k2 0
    have z3 := blk_cell k3 0
    have z4 := blk_cell k3 1
    refine ⟨.tuple #[.slice none 0 0, .agg #[.int .i64 cd, .int .i64 ad]], ?_, .slice none 0 0, by rw [hall], by rw [hall]; exact World.ownsRow_nil _ _ _ _, hB.trans (belowK_b (w := w) (Nat.le_refl _) W D _ _ (by omega) hK rfl rfl)⟩
    simp [results, Tryd.f9, go_sem, z2, z3, z4]
def lex_All.f (a0 : ByteArray) : Option (List S30 × Int × Int) := if a0.size ≤ 1000000 then some (allT a0.data.toList) else none
theorem lex_All.calls (a0 : ByteArray) (r1 : List S30) (r2 r3 : Int) (w : World) (hG : Glob w) (h : lex_All.f a0 = some (r1, r2, r3)) :
    Calls Tryd.prog 9 #[.string a0] w fun e w' => ∃ v0_, e = .returned (.tuple #[v0_, .agg #[.int .i64 r2, .int .i64 r3]]) ∧ Kd.R k30 30 w' w.heap.size (fun _ => True) v0_ r1 ∧ Below w.heap.size w w' := by
  unfold lex_All.f at h
  split at h
  · rename_i hs
    have h1 := Option.some.inj h
    refine (all_any a0 hs w hG).mono ?_
    rintro e w' ⟨v, rfl, hr, hb⟩
    rw [h1] at hr ⊢
    exact ⟨v, rfl, row_flat hr, hb⟩
  · cases h
theorem all_f (l : List UInt8) (hl : l.length ≤ 1000000) : lex_All.f (bs l) = some (allT l) := by
  unfold lex_All.f
  rw [if_pos (by rw [bs_size]; exact hl)]
end Go.Proofs.YtjolkombhdibcaaDoor.Given
end
section
namespace Go.Proofs.YtjolkombhdibcaaDoor.Print
open Go.RowKit Go.Proofs.YtjolkombhdibcaaDoor.Given Go.Proofs.YtjolkombhdibcaaDoorW.PrintWords Go.Proofs.YtjolkombhdibcaaDoorW.PrintLast Go.Proofs.YtjolkombhdibcaaDoorW.PrintMore
attribute [local go_sem] max2_int min2_int max_two min_two max_three min_three max_four min_four
set_option linter.unusedVariables false
set_option linter.unusedSimpArgs false
theorem eqA25 (d : Nat) (w : World) (x0 y0 : Int) (x1 y1 : Int) :
  (Op.equalIn (d + 2) 25 (.agg #[.int .i64 x0, .int .i64 x1]) (.agg #[.int .i64 y0, .int .i64 y1])).run Tryd.prog w = .ok (x0 == y0 && (x1 == y1)) w := by
 refine eqA_of Tryd.underlying25 (by kernel_rfl) ?_
 refine eqf_cons (by rfl) (by go_simp; rfl) (by go_simp; rfl) (by go_simp) ?_
 exact eqf_last (by rfl) (by go_simp; rfl) (by go_simp; rfl) (by go_simp)
end Go.Proofs.YtjolkombhdibcaaDoor.Print
end
