/- LexTwo: the row, and the tied card: for every input the law answers true; the arguments read behind the call as before. The listed variables of Go's library are tied to the program's text (in a pruned copy of the project). -/
/- Packed by a program of this session (wip/tools/pack.py): the declarations of its texts that this claim needs. Not trusted: Lean checks it. -/
import Derived.Test.YtjolkombhdibcaaDoorDuoC
import Derived.Test.YtjolkombhdibcaaDoorCards
import Derived.Test.YtjolkombhdibcaaDoorTie
import Derived.ChangeOld
import Derived.SizedLaws
import Derived.SevenTiedAt
import Derived.Lib.SmallJoins
import Derived.Deep.Strs
import Derived.Test.YtjolkombhdibcaaDoorChecked
section
namespace Go.Proofs.YtjolkombhdibcaaDoor.Print
open Go.RowKit Go.Proofs.YtjolkombhdibcaaDoor.Given Go.Proofs.YtjolkombhdibcaaDoorW.PrintWords Go.Proofs.YtjolkombhdibcaaDoorW.PrintLast Go.Proofs.YtjolkombhdibcaaDoorW.PrintMore
attribute [local go_sem] max2_int min2_int max_two min_two max_three min_three max_four min_four
set_option linter.unusedVariables false
set_option linter.unusedSimpArgs false
attribute [local go_sem high] eqA25 eqA30
theorem x68_14 {p : Prop} (h : p := by first | (with_reducible assumption) | assumption) : p := h
theorem x68_13 {p : Prop} (h : p := by first | rfl | (simp [errW_none, errW_some] <;> rfl) | (simp [*, errW_none, errW_some] <;> rfl)) : p := h
theorem x68_12 {p : Prop} (h : p := by (with_reducible repeat (first | apply Kd.R_alloc | apply Kd.R_drewN | apply Kd.R_drew)); exact HO427.out) : p := h
theorem x68_11 {p : Prop} (h : p := by first | (rw [add_block]; exact hn434_1) | (show (Addr.add _ _).block ≠ _; rw [add_block]; exact hn434_1) | exact hn434_1) : p := h
theorem x68_10 {p : Prop} (h : p := by first | (rw [add_block]; exact hn434_0) | (show (Addr.add _ _).block ≠ _; rw [add_block]; exact hn434_0) | exact hn434_0) : p := h
theorem x68_9 {p : Prop} (h : p := by first | (rw [add_block]; exact hn433_1) | (show (Addr.add _ _).block ≠ _; rw [add_block]; exact hn433_1) | exact hn433_1) : p := h
theorem x68_8 {p : Prop} (h : p := by first | (rw [add_block]; exact hn433_0) | (show (Addr.add _ _).block ≠ _; rw [add_block]; exact hn433_0) | exact hn433_0) : p := h
theorem x68_7 {p : Prop} (h : p := by first | (rw [add_block]; exact hn432_1) | (show (Addr.add _ _).block ≠ _; rw [add_block]; exact hn432_1) | exact hn432_1) : p := h
theorem x68_6 {p : Prop} (h : p := by first | (rw [add_block]; exact hn432_0) | (show (Addr.add _ _).block ≠ _; rw [add_block]; exact hn432_0) | exact hn432_0) : p := h
theorem x68_5 {p : Prop} (h : p := by first | (rw [add_block]; exact hn431_1) | (show (Addr.add _ _).block ≠ _; rw [add_block]; exact hn431_1) | exact hn431_1) : p := h
theorem x68_4 {p : Prop} (h : p := by first | (rw [add_block]; exact hn431_0) | (show (Addr.add _ _).block ≠ _; rw [add_block]; exact hn431_0) | exact hn431_0) : p := h
theorem x68_3 {p : Prop} (h : p := by repeat (first | (with_reducible first | exact HB.out | apply below_alloc | apply pw_below_drewN | apply below_drew1) | exact HB.out)) : p := h
theorem x68_2 {p : Prop} (h : p := by (try simp only [List.map_toArray, List.map_cons, List.map_nil]); first | done | rfl | (simp only [List.length_drop, List.length_take]; rfl)) : p := h
theorem x68_1 {p : Prop} (h : p := by repeat (first | (with_reducible first | exact HB.out | apply below_alloc | apply pw_below_drewN | apply below_drew1 | refine below_set ?_ GE430.out) | exact HB.out)) : p := h
theorem x68_0 {p : Prop} (h : p := by first | exact Glob.at_ HG0.out x68_1 | exact Glob.at_ HG0.out (Below.refl _ _)) : p := h
def casketlaw11_awake.f  : Option (Bool) := (lex_All.f (⟨#[108, 101, 116, 32, 120, 61, 49, 46, 46, 50, 32, 35, 32, 121]⟩ : ByteArray)).bind fun bt425 => (if (bt425.1.length : Int) = 7 then (if 1 < (bt425.1.length : Int) then (if (((rd_T30 bt425.1 1).f0) == 1 && (((rd_T30 bt425.1 1).f1) == 4 && ((((rd_T30 bt425.1 1).f2).toList) == ([120] : List UInt8) && (((rd_T30 bt425.1 1).f3) == 0 && (((rd_T30 bt425.1 1).f4) == 0))))) = true then (if 4 < (bt425.1.length : Int) then (if (((rd_T30 bt425.1 4).f0) == 3 && (((rd_T30 bt425.1 4).f1) == 7 && ((((rd_T30 bt425.1 4).f2).toList) == ([46, 46] : List UInt8) && (((rd_T30 bt425.1 4).f3) == 0 && (((rd_T30 bt425.1 4).f4) == 0))))) = true then (if 6 < (bt425.1.length : Int) then (if ((rd_T30 bt425.1 6).f0) = 7 then (if ((rd_T30 bt425.1 6).f1) = 14 then (some (bt425.2.1 == 0 && (bt425.2.2 == 0))) else (some false)) else (some false)) else (none)) else (some false)) else (none)) else (some false)) else (none)) else (some false))
set_option maxHeartbeats 8000000 in
set_option maxRecDepth 100000 in
theorem casketlaw11_awake.calls  (r : Bool) (w : World) (hG : Glob w) (h : casketlaw11_awake.f  = some r) :
  Calls Tryd.prog 12 #[] w fun e w' => e = .returned (.bool r) ∧ Below w.heap.size w w' := by
 have HG0 := Aside0.mk hG
 clear hG
 have hu25 := Tryd.underlying25
 have hu30 := Tryd.underlying30
 have HB := Aside0.mk (Below.refl w.heap.size w)
 have H : ((lex_All.f (⟨#[108, 101, 116, 32, 120, 61, 49, 46, 46, 50, 32, 35, 32, 121]⟩ : ByteArray)).bind fun bt425 => (if (bt425.1.length : Int) = 7 then (if 1 < (bt425.1.length : Int) then (if (((rd_T30 bt425.1 1).f0) == 1 && (((rd_T30 bt425.1 1).f1) == 4 && ((((rd_T30 bt425.1 1).f2).toList) == ([120] : List UInt8) && (((rd_T30 bt425.1 1).f3) == 0 && (((rd_T30 bt425.1 1).f4) == 0))))) = true then (if 4 < (bt425.1.length : Int) then (if (((rd_T30 bt425.1 4).f0) == 3 && (((rd_T30 bt425.1 4).f1) == 7 && ((((rd_T30 bt425.1 4).f2).toList) == ([46, 46] : List UInt8) && (((rd_T30 bt425.1 4).f3) == 0 && (((rd_T30 bt425.1 4).f4) == 0))))) = true then (if 6 < (bt425.1.length : Int) then (if ((rd_T30 bt425.1 6).f0) = 7 then (if ((rd_T30 bt425.1 6).f1) = 14 then (some (bt425.2.1 == 0 && (bt425.2.2 == 0))) else (some false)) else (some false)) else (none)) else (some false)) else (none)) else (some false)) else (none)) else (some false))) = some r := h
 clear h
 replace H := Option.bind_eq_some_iff.mp H
 obtain ⟨⟨t425, t428, t429⟩, A10, H⟩ := H
 replace H : (if (t425.length : Int) = 7 then (if 1 < (t425.length : Int) then (if (((rd_T30 t425 1).f0) == 1 && (((rd_T30 t425 1).f1) == 4 && ((((rd_T30 t425 1).f2).toList) == ([120] : List UInt8) && (((rd_T30 t425 1).f3) == 0 && (((rd_T30 t425 1).f4) == 0))))) = true then (if 4 < (t425.length : Int) then (if (((rd_T30 t425 4).f0) == 3 && (((rd_T30 t425 4).f1) == 7 && ((((rd_T30 t425 4).f2).toList) == ([46, 46] : List UInt8) && (((rd_T30 t425 4).f3) == 0 && (((rd_T30 t425 4).f4) == 0))))) = true then (if 6 < (t425.length : Int) then (if ((rd_T30 t425 6).f0) = 7 then (if ((rd_T30 t425 6).f1) = 14 then (some (t428 == 0 && (t429 == 0))) else (some false)) else (some false)) else (none)) else (some false)) else (none)) else (some false)) else (none)) else (some false)) = some r := H
 have A1 := Aside0.mk A10
 clear A10
 by_cases c2 : (t425.length : Int) = 7
 ·rw [if_pos c2] at H
  have c2b0 := beq_iff_eq.mpr c2
  have c2b1 := bne_eq_false_iff_eq.mpr c2
  clear c2
  by_cases c3 : 1 < (t425.length : Int)
  ·rw [if_pos c3] at H
   have c3b0 := decide_eq_true c3
   have c3b1 : decide (1 < t425.length) = true := decide_eq_true (by omega)
   clear c3
   by_cases c4 : (((rd_T30 t425 1).f0) == 1 && (((rd_T30 t425 1).f1) == 4 && ((((rd_T30 t425 1).f2).toList) == ([120] : List UInt8) && (((rd_T30 t425 1).f3) == 0 && (((rd_T30 t425 1).f4) == 0))))) = true
   ·rw [if_pos c4] at H
    have c4b0 : (((rd_T30 t425 1).f0) == 1 && (((rd_T30 t425 1).f1) == 4 && ((((rd_T30 t425 1).f2).toList) == ([120] : List UInt8) && (((rd_T30 t425 1).f3) == 0 && (((rd_T30 t425 1).f4) == 0))))) = true := c4
    (try (have c4b1 : decide (((rd_T30 t425 1).f0) = 1 && (((rd_T30 t425 1).f1) == 4 && ((((rd_T30 t425 1).f2).toList) == ([120] : List UInt8) && (((rd_T30 t425 1).f3) == 0 && (((rd_T30 t425 1).f4) == 0))))) = true := by simpa using c4))
    (try (have c4b2 : (((rd_T30 t425 1).f0) == 1 && (((rd_T30 t425 1).f1) == 4 && ((((rd_T30 t425 1).f2).toList) == ([120] : List UInt8) && (((rd_T30 t425 1).f3) == 0 && (((rd_T30 t425 1).f4) == 0))))) = true := by simpa using c4))
    clear c4
    by_cases c5 : 4 < (t425.length : Int)
    ·rw [if_pos c5] at H
     have c5b0 := decide_eq_true c5
     have c5b1 : decide (4 < t425.length) = true := decide_eq_true (by omega)
     clear c5
     by_cases c6 : (((rd_T30 t425 4).f0) == 3 && (((rd_T30 t425 4).f1) == 7 && ((((rd_T30 t425 4).f2).toList) == ([46, 46] : List UInt8) && (((rd_T30 t425 4).f3) == 0 && (((rd_T30 t425 4).f4) == 0))))) = true
     ·rw [if_pos c6] at H
      have c6b0 : (((rd_T30 t425 4).f0) == 3 && (((rd_T30 t425 4).f1) == 7 && ((((rd_T30 t425 4).f2).toList) == ([46, 46] : List UInt8) && (((rd_T30 t425 4).f3) == 0 && (((rd_T30 t425 4).f4) == 0))))) = true := c6
      (try (have c6b1 : decide (((rd_T30 t425 4).f0) = 3 && (((rd_T30 t425 4).f1) == 7 && ((((rd_T30 t425 4).f2).toList) == ([46, 46] : List UInt8) && (((rd_T30 t425 4).f3) == 0 && (((rd_T30 t425 4).f4) == 0))))) = true := by simpa using c6))
      (try (have c6b2 : (((rd_T30 t425 4).f0) == 3 && (((rd_T30 t425 4).f1) == 7 && ((((rd_T30 t425 4).f2).toList) == ([46, 46] : List UInt8) && (((rd_T30 t425 4).f3) == 0 && (((rd_T30 t425 4).f4) == 0))))) = true := by simpa using c6))
      clear c6
      by_cases c7 : 6 < (t425.length : Int)
      ·rw [if_pos c7] at H
       have c7b0 := decide_eq_true c7
       have c7b1 : decide (6 < t425.length) = true := decide_eq_true (by omega)
       clear c7
       by_cases c8 : ((rd_T30 t425 6).f0) = 7
       ·rw [if_pos c8] at H
        have c8b0 := beq_iff_eq.mpr c8
        have c8b1 := bne_eq_false_iff_eq.mpr c8
        clear c8
        by_cases c9 : ((rd_T30 t425 6).f1) = 14
        ·rw [if_pos c9] at H
         have c9b0 := beq_iff_eq.mpr c9
         have c9b1 := bne_eq_false_iff_eq.mpr c9
         clear c9
         obtain rfl := Option.some.inj H
         go_enter Tryd.func12, Tryd.ntmps12
         go_wp2_with (first | ((with_reducible refine gate_callee (f := 9) rfl ?_); refine goesL_ (some 4) rfl rfl Tryd.func9 (by kernel_rfl) rfl #[.string (⟨#[108, 101, 116, 32, 120, 61, 49, 46, 46, 50, 32, 35, 32, 121]⟩ : ByteArray)] rfl x68_2 ?_; (with_reducible refine (lex_All.calls (hG := x68_0) (⟨#[108, 101, 116, 32, 120, 61, 49, 46, 46, 50, 32, 35, 32, 121]⟩ : ByteArray) t425 t428 t429 _ A1.out).mono ?_); rintro e w10 ⟨v426, rfl, ho0, hb⟩; refine ⟨_, rfl, ?_⟩; have n0_ := Aside0.mk (Kd.R_lower ho0 (below_size x68_3)); have n1_ := Aside0.mk (below_step x68_3 hb); clear HB; have HO427 := n0_; have HB := n1_; clear n0_ n1_) | ((with_reducible refine gate_dst (N := 2) rfl ?_); refine box_event ?hg (N := 2) ?hd (cs := #[.int .i64 0, .int .i64 0]) (t := 25) ?hr ?_; (case hd => rfl); (case hg => rfl); (case hr => first | (go_simp; done) | (go_simp; rfl)); intro gb430 hg w11 hbox hb; have n0_ := Aside0.mk (Kd.R_below x68_12 hb); have n1_ := Aside0.mk (below_step x68_3 hb); have n2_ := Aside0.mk (hbox); have n3_ := Aside0.mk ((by rw [hg]; exact (below_size x68_3) : w.heap.size ≤ gb430)); have n4_ := Aside0.mk ((by rw [hg]; exact (below_size x68_3) : w.heap.size ≤ gb430)); clear HO427; clear HB; have HO427 := n0_; have HB := n1_; have BK430 := n2_; have GW430 := n3_; have GE430 := n4_; clear n0_ n1_ n2_ n3_ n4_; clear hb hbox hg; have hcz12_0 : w11.cell? ⟨gb430, 0, none⟩ = some (.int .i64 0) := (blk_cell BK430.out 0).trans rfl; have hcz12_1 : w11.cell? ⟨gb430, 1, none⟩ = some (.int .i64 0) := (blk_cell BK430.out 1).trans rfl; have hfz12_0 := blk_frozen BK430.out 0; have hfz12_1 := blk_frozen BK430.out 1; obtain ⟨Ao13, co13, eo13⟩ := Kd.R_slice HO427.out; subst eo13; have p431 : 0 ≤ (1 : Int) := (by omega); have q431 : 1 < (t425.length : Int) := of_decide_eq_true x68_14; obtain ⟨ad431, e431, hx431_0, hx431_1, hx431_2, hx431_3, hx431_4⟩ := at_T30 (Kd.R_reads' HO427.out).2.2 1 p431 q431; cases e431; (try simp only [show (1 : Int).toNat = 1 from rfl, Nat.reduceMul, Nat.reduceEqDiff, Go.Addr.add, ↓reduceIte] at hx431_0); (try simp only [show (1 : Int).toNat = 1 from rfl, Nat.reduceMul, Nat.reduceEqDiff, Go.Addr.add, ↓reduceIte] at hx431_1); (try simp only [show (1 : Int).toNat = 1 from rfl, Nat.reduceMul, Nat.reduceEqDiff, Go.Addr.add, ↓reduceIte] at hx431_2); (try simp only [show (1 : Int).toNat = 1 from rfl, Nat.reduceMul, Nat.reduceEqDiff, Go.Addr.add, ↓reduceIte] at hx431_3); (try simp only [show (1 : Int).toNat = 1 from rfl, Nat.reduceMul, Nat.reduceEqDiff, Go.Addr.add, ↓reduceIte] at hx431_4); have qi431 : (1 < t425.length) = True := eq_true (by omega); (try rw [show ((1 : Int)).toNat = 1 from rfl] at hx431_0); (try rw [show 1 * 5 = 5 from rfl] at hx431_0); (try rw [show ((1 : Int)).toNat = 1 from rfl] at hx431_1); (try rw [show 1 * 5 = 5 from rfl] at hx431_1); (try rw [show ((1 : Int)).toNat = 1 from rfl] at hx431_2); (try rw [show 1 * 5 = 5 from rfl] at hx431_2); (try rw [show ((1 : Int)).toNat = 1 from rfl] at hx431_3); (try rw [show 1 * 5 = 5 from rfl] at hx431_3); (try rw [show ((1 : Int)).toNat = 1 from rfl] at hx431_4); (try rw [show 1 * 5 = 5 from rfl] at hx431_4); have hn431_0 : ad431.block ≠ gb430 := Kd.own_blk (Kd.R_ne HO427.out BK430.out (by decide)); have hn431_1 : ad431.block ≠ gb430 := Kd.own_blk (Kd.R_ne HO427.out BK430.out (by decide)); replace hx431_0 := (cell_far (p := ⟨gb430, 0, none⟩) x68_4 (.int .i64 t428)).trans hx431_0; replace hx431_1 := (cell_far (p := ⟨gb430, 0, none⟩) x68_4 (.int .i64 t428)).trans hx431_1; replace hx431_2 := (cell_far (p := ⟨gb430, 0, none⟩) x68_4 (.int .i64 t428)).trans hx431_2; replace hx431_3 := (cell_far (p := ⟨gb430, 0, none⟩) x68_4 (.int .i64 t428)).trans hx431_3; replace hx431_4 := (cell_far (p := ⟨gb430, 0, none⟩) x68_4 (.int .i64 t428)).trans hx431_4; replace hx431_0 := (cell_far (p := ⟨gb430, 1, none⟩) x68_5 (.int .i64 t429)).trans hx431_0; replace hx431_1 := (cell_far (p := ⟨gb430, 1, none⟩) x68_5 (.int .i64 t429)).trans hx431_1; replace hx431_2 := (cell_far (p := ⟨gb430, 1, none⟩) x68_5 (.int .i64 t429)).trans hx431_2; replace hx431_3 := (cell_far (p := ⟨gb430, 1, none⟩) x68_5 (.int .i64 t429)).trans hx431_3; replace hx431_4 := (cell_far (p := ⟨gb430, 1, none⟩) x68_5 (.int .i64 t429)).trans hx431_4; clear hn431_0; clear hn431_1; replace p431 := eq_true p431; replace q431 := eq_true q431; have p432 : 0 ≤ (4 : Int) := (by omega); have q432 : 4 < (t425.length : Int) := of_decide_eq_true x68_14; obtain ⟨ad432, e432, hx432_0, hx432_1, hx432_2, hx432_3, hx432_4⟩ := at_T30 (Kd.R_reads' HO427.out).2.2 4 p432 q432; obtain rfl : ad431 = ad432 := (by injection e432); (try simp only [show (4 : Int).toNat = 4 from rfl, Nat.reduceMul, Nat.reduceEqDiff, Go.Addr.add, ↓reduceIte] at hx432_0); (try simp only [show (4 : Int).toNat = 4 from rfl, Nat.reduceMul, Nat.reduceEqDiff, Go.Addr.add, ↓reduceIte] at hx432_1); (try simp only [show (4 : Int).toNat = 4 from rfl, Nat.reduceMul, Nat.reduceEqDiff, Go.Addr.add, ↓reduceIte] at hx432_2); (try simp only [show (4 : Int).toNat = 4 from rfl, Nat.reduceMul, Nat.reduceEqDiff, Go.Addr.add, ↓reduceIte] at hx432_3); (try simp only [show (4 : Int).toNat = 4 from rfl, Nat.reduceMul, Nat.reduceEqDiff, Go.Addr.add, ↓reduceIte] at hx432_4); have qi432 : (4 < t425.length) = True := eq_true (by omega); (try rw [show ((4 : Int)).toNat = 4 from rfl] at hx432_0); (try rw [show 4 * 5 = 20 from rfl] at hx432_0); (try rw [show ((4 : Int)).toNat = 4 from rfl] at hx432_1); (try rw [show 4 * 5 = 20 from rfl] at hx432_1); (try rw [show ((4 : Int)).toNat = 4 from rfl] at hx432_2); (try rw [show 4 * 5 = 20 from rfl] at hx432_2); (try rw [show ((4 : Int)).toNat = 4 from rfl] at hx432_3); (try rw [show 4 * 5 = 20 from rfl] at hx432_3); (try rw [show ((4 : Int)).toNat = 4 from rfl] at hx432_4); (try rw [show 4 * 5 = 20 from rfl] at hx432_4); have hn432_0 : ad431.block ≠ gb430 := Kd.own_blk (Kd.R_ne HO427.out BK430.out (by decide)); have hn432_1 : ad431.block ≠ gb430 := Kd.own_blk (Kd.R_ne HO427.out BK430.out (by decide)); replace hx432_0 := (cell_far (p := ⟨gb430, 0, none⟩) x68_6 (.int .i64 t428)).trans hx432_0; replace hx432_1 := (cell_far (p := ⟨gb430, 0, none⟩) x68_6 (.int .i64 t428)).trans hx432_1; replace hx432_2 := (cell_far (p := ⟨gb430, 0, none⟩) x68_6 (.int .i64 t428)).trans hx432_2; replace hx432_3 := (cell_far (p := ⟨gb430, 0, none⟩) x68_6 (.int .i64 t428)).trans hx432_3; replace hx432_4 := (cell_far (p := ⟨gb430, 0, none⟩) x68_6 (.int .i64 t428)).trans hx432_4; replace hx432_0 := (cell_far (p := ⟨gb430, 1, none⟩) x68_7 (.int .i64 t429)).trans hx432_0; replace hx432_1 := (cell_far (p := ⟨gb430, 1, none⟩) x68_7 (.int .i64 t429)).trans hx432_1; replace hx432_2 := (cell_far (p := ⟨gb430, 1, none⟩) x68_7 (.int .i64 t429)).trans hx432_2; replace hx432_3 := (cell_far (p := ⟨gb430, 1, none⟩) x68_7 (.int .i64 t429)).trans hx432_3; replace hx432_4 := (cell_far (p := ⟨gb430, 1, none⟩) x68_7 (.int .i64 t429)).trans hx432_4; clear hn432_0; clear hn432_1; replace p432 := eq_true p432; replace q432 := eq_true q432; have p433 : 0 ≤ (6 : Int) := (by omega); have q433 : 6 < (t425.length : Int) := of_decide_eq_true x68_14; obtain ⟨ad433, e433, hx433_0, hx433_1, hx433_2, hx433_3, hx433_4⟩ := at_T30 (Kd.R_reads' HO427.out).2.2 6 p433 q433; obtain rfl : ad431 = ad433 := (by injection e433); (try simp only [show (6 : Int).toNat = 6 from rfl, Nat.reduceMul, Nat.reduceEqDiff, Go.Addr.add, ↓reduceIte] at hx433_0); (try simp only [show (6 : Int).toNat = 6 from rfl, Nat.reduceMul, Nat.reduceEqDiff, Go.Addr.add, ↓reduceIte] at hx433_1); (try simp only [show (6 : Int).toNat = 6 from rfl, Nat.reduceMul, Nat.reduceEqDiff, Go.Addr.add, ↓reduceIte] at hx433_2); (try simp only [show (6 : Int).toNat = 6 from rfl, Nat.reduceMul, Nat.reduceEqDiff, Go.Addr.add, ↓reduceIte] at hx433_3); (try simp only [show (6 : Int).toNat = 6 from rfl, Nat.reduceMul, Nat.reduceEqDiff, Go.Addr.add, ↓reduceIte] at hx433_4); have qi433 : (6 < t425.length) = True := eq_true (by omega); (try rw [show ((6 : Int)).toNat = 6 from rfl] at hx433_0); (try rw [show 6 * 5 = 30 from rfl] at hx433_0); (try rw [show ((6 : Int)).toNat = 6 from rfl] at hx433_1); (try rw [show 6 * 5 = 30 from rfl] at hx433_1); (try rw [show ((6 : Int)).toNat = 6 from rfl] at hx433_2); (try rw [show 6 * 5 = 30 from rfl] at hx433_2); (try rw [show ((6 : Int)).toNat = 6 from rfl] at hx433_3); (try rw [show 6 * 5 = 30 from rfl] at hx433_3); (try rw [show ((6 : Int)).toNat = 6 from rfl] at hx433_4); (try rw [show 6 * 5 = 30 from rfl] at hx433_4); have hn433_0 : ad431.block ≠ gb430 := Kd.own_blk (Kd.R_ne HO427.out BK430.out (by decide)); have hn433_1 : ad431.block ≠ gb430 := Kd.own_blk (Kd.R_ne HO427.out BK430.out (by decide)); replace hx433_0 := (cell_far (p := ⟨gb430, 0, none⟩) x68_8 (.int .i64 t428)).trans hx433_0; replace hx433_1 := (cell_far (p := ⟨gb430, 0, none⟩) x68_8 (.int .i64 t428)).trans hx433_1; replace hx433_2 := (cell_far (p := ⟨gb430, 0, none⟩) x68_8 (.int .i64 t428)).trans hx433_2; replace hx433_3 := (cell_far (p := ⟨gb430, 0, none⟩) x68_8 (.int .i64 t428)).trans hx433_3; replace hx433_4 := (cell_far (p := ⟨gb430, 0, none⟩) x68_8 (.int .i64 t428)).trans hx433_4; replace hx433_0 := (cell_far (p := ⟨gb430, 1, none⟩) x68_9 (.int .i64 t429)).trans hx433_0; replace hx433_1 := (cell_far (p := ⟨gb430, 1, none⟩) x68_9 (.int .i64 t429)).trans hx433_1; replace hx433_2 := (cell_far (p := ⟨gb430, 1, none⟩) x68_9 (.int .i64 t429)).trans hx433_2; replace hx433_3 := (cell_far (p := ⟨gb430, 1, none⟩) x68_9 (.int .i64 t429)).trans hx433_3; replace hx433_4 := (cell_far (p := ⟨gb430, 1, none⟩) x68_9 (.int .i64 t429)).trans hx433_4; clear hn433_0; clear hn433_1; replace p433 := eq_true p433; replace q433 := eq_true q433; have p434 : 0 ≤ (6 : Int) := (by omega); have q434 : 6 < (t425.length : Int) := of_decide_eq_true x68_14; obtain ⟨ad434, e434, hx434_0, hx434_1, hx434_2, hx434_3, hx434_4⟩ := at_T30 (Kd.R_reads' HO427.out).2.2 6 p434 q434; obtain rfl : ad431 = ad434 := (by injection e434); (try simp only [show (6 : Int).toNat = 6 from rfl, Nat.reduceMul, Nat.reduceEqDiff, Go.Addr.add, ↓reduceIte] at hx434_0); (try simp only [show (6 : Int).toNat = 6 from rfl, Nat.reduceMul, Nat.reduceEqDiff, Go.Addr.add, ↓reduceIte] at hx434_1); (try simp only [show (6 : Int).toNat = 6 from rfl, Nat.reduceMul, Nat.reduceEqDiff, Go.Addr.add, ↓reduceIte] at hx434_2); (try simp only [show (6 : Int).toNat = 6 from rfl, Nat.reduceMul, Nat.reduceEqDiff, Go.Addr.add, ↓reduceIte] at hx434_3); (try simp only [show (6 : Int).toNat = 6 from rfl, Nat.reduceMul, Nat.reduceEqDiff, Go.Addr.add, ↓reduceIte] at hx434_4); have qi434 : (6 < t425.length) = True := eq_true (by omega); (try rw [show ((6 : Int)).toNat = 6 from rfl] at hx434_0); (try rw [show 6 * 5 = 30 from rfl] at hx434_0); (try rw [show ((6 : Int)).toNat = 6 from rfl] at hx434_1); (try rw [show 6 * 5 = 30 from rfl] at hx434_1); (try rw [show ((6 : Int)).toNat = 6 from rfl] at hx434_2); (try rw [show 6 * 5 = 30 from rfl] at hx434_2); (try rw [show ((6 : Int)).toNat = 6 from rfl] at hx434_3); (try rw [show 6 * 5 = 30 from rfl] at hx434_3); (try rw [show ((6 : Int)).toNat = 6 from rfl] at hx434_4); (try rw [show 6 * 5 = 30 from rfl] at hx434_4); have hn434_0 : ad431.block ≠ gb430 := Kd.own_blk (Kd.R_ne HO427.out BK430.out (by decide)); have hn434_1 : ad431.block ≠ gb430 := Kd.own_blk (Kd.R_ne HO427.out BK430.out (by decide)); replace hx434_0 := (cell_far (p := ⟨gb430, 0, none⟩) x68_10 (.int .i64 t428)).trans hx434_0; replace hx434_1 := (cell_far (p := ⟨gb430, 0, none⟩) x68_10 (.int .i64 t428)).trans hx434_1; replace hx434_2 := (cell_far (p := ⟨gb430, 0, none⟩) x68_10 (.int .i64 t428)).trans hx434_2; replace hx434_3 := (cell_far (p := ⟨gb430, 0, none⟩) x68_10 (.int .i64 t428)).trans hx434_3; replace hx434_4 := (cell_far (p := ⟨gb430, 0, none⟩) x68_10 (.int .i64 t428)).trans hx434_4; replace hx434_0 := (cell_far (p := ⟨gb430, 1, none⟩) x68_11 (.int .i64 t429)).trans hx434_0; replace hx434_1 := (cell_far (p := ⟨gb430, 1, none⟩) x68_11 (.int .i64 t429)).trans hx434_1; replace hx434_2 := (cell_far (p := ⟨gb430, 1, none⟩) x68_11 (.int .i64 t429)).trans hx434_2; replace hx434_3 := (cell_far (p := ⟨gb430, 1, none⟩) x68_11 (.int .i64 t429)).trans hx434_3; replace hx434_4 := (cell_far (p := ⟨gb430, 1, none⟩) x68_11 (.int .i64 t429)).trans hx434_4; clear hn434_0; clear hn434_1; replace p434 := eq_true p434; replace q434 := eq_true q434))
         go_ret
         exact ⟨x68_13, x68_1⟩
        ·rw [if_neg c9] at H
         have c9b0 := beq_eq_false_iff_ne.mpr c9
         have c9b1 := bne_iff_ne.mpr c9
         obtain rfl := Option.some.inj H
         go_enter Tryd.func12, Tryd.ntmps12
         go_wp2_with (first | ((with_reducible refine gate_callee (f := 9) rfl ?_); refine goesL_ (some 4) rfl rfl Tryd.func9 (by kernel_rfl) rfl #[.string (⟨#[108, 101, 116, 32, 120, 61, 49, 46, 46, 50, 32, 35, 32, 121]⟩ : ByteArray)] rfl x68_2 ?_; (with_reducible refine (lex_All.calls (hG := x68_0) (⟨#[108, 101, 116, 32, 120, 61, 49, 46, 46, 50, 32, 35, 32, 121]⟩ : ByteArray) t425 t428 t429 _ A1.out).mono ?_); rintro e w14 ⟨v426, rfl, ho0, hb⟩; refine ⟨_, rfl, ?_⟩; have n0_ := Aside0.mk (Kd.R_lower ho0 (below_size x68_3)); have n1_ := Aside0.mk (below_step x68_3 hb); clear HB; have HO427 := n0_; have HB := n1_; clear n0_ n1_) | ((with_reducible refine gate_dst (N := 2) rfl ?_); refine box_event ?hg (N := 2) ?hd (cs := #[.int .i64 0, .int .i64 0]) (t := 25) ?hr ?_; (case hd => rfl); (case hg => rfl); (case hr => first | (go_simp; done) | (go_simp; rfl)); intro gb430 hg w15 hbox hb; have n0_ := Aside0.mk (Kd.R_below x68_12 hb); have n1_ := Aside0.mk (below_step x68_3 hb); have n2_ := Aside0.mk (hbox); have n3_ := Aside0.mk ((by rw [hg]; exact (below_size x68_3) : w.heap.size ≤ gb430)); have n4_ := Aside0.mk ((by rw [hg]; exact (below_size x68_3) : w.heap.size ≤ gb430)); clear HO427; clear HB; have HO427 := n0_; have HB := n1_; have BK430 := n2_; have GW430 := n3_; have GE430 := n4_; clear n0_ n1_ n2_ n3_ n4_; clear hb hbox hg; have hcz16_0 : w15.cell? ⟨gb430, 0, none⟩ = some (.int .i64 0) := (blk_cell BK430.out 0).trans rfl; have hcz16_1 : w15.cell? ⟨gb430, 1, none⟩ = some (.int .i64 0) := (blk_cell BK430.out 1).trans rfl; have hfz16_0 := blk_frozen BK430.out 0; have hfz16_1 := blk_frozen BK430.out 1; obtain ⟨Ao17, co17, eo17⟩ := Kd.R_slice HO427.out; subst eo17; have p431 : 0 ≤ (1 : Int) := (by omega); have q431 : 1 < (t425.length : Int) := of_decide_eq_true x68_14; obtain ⟨ad431, e431, hx431_0, hx431_1, hx431_2, hx431_3, hx431_4⟩ := at_T30 (Kd.R_reads' HO427.out).2.2 1 p431 q431; cases e431; (try simp only [show (1 : Int).toNat = 1 from rfl, Nat.reduceMul, Nat.reduceEqDiff, Go.Addr.add, ↓reduceIte] at hx431_0); (try simp only [show (1 : Int).toNat = 1 from rfl, Nat.reduceMul, Nat.reduceEqDiff, Go.Addr.add, ↓reduceIte] at hx431_1); (try simp only [show (1 : Int).toNat = 1 from rfl, Nat.reduceMul, Nat.reduceEqDiff, Go.Addr.add, ↓reduceIte] at hx431_2); (try simp only [show (1 : Int).toNat = 1 from rfl, Nat.reduceMul, Nat.reduceEqDiff, Go.Addr.add, ↓reduceIte] at hx431_3); (try simp only [show (1 : Int).toNat = 1 from rfl, Nat.reduceMul, Nat.reduceEqDiff, Go.Addr.add, ↓reduceIte] at hx431_4); have qi431 : (1 < t425.length) = True := eq_true (by omega); (try rw [show ((1 : Int)).toNat = 1 from rfl] at hx431_0); (try rw [show 1 * 5 = 5 from rfl] at hx431_0); (try rw [show ((1 : Int)).toNat = 1 from rfl] at hx431_1); (try rw [show 1 * 5 = 5 from rfl] at hx431_1); (try rw [show ((1 : Int)).toNat = 1 from rfl] at hx431_2); (try rw [show 1 * 5 = 5 from rfl] at hx431_2); (try rw [show ((1 : Int)).toNat = 1 from rfl] at hx431_3); (try rw [show 1 * 5 = 5 from rfl] at hx431_3); (try rw [show ((1 : Int)).toNat = 1 from rfl] at hx431_4); (try rw [show 1 * 5 = 5 from rfl] at hx431_4); have hn431_0 : ad431.block ≠ gb430 := Kd.own_blk (Kd.R_ne HO427.out BK430.out (by decide)); have hn431_1 : ad431.block ≠ gb430 := Kd.own_blk (Kd.R_ne HO427.out BK430.out (by decide)); replace hx431_0 := (cell_far (p := ⟨gb430, 0, none⟩) x68_4 (.int .i64 t428)).trans hx431_0; replace hx431_1 := (cell_far (p := ⟨gb430, 0, none⟩) x68_4 (.int .i64 t428)).trans hx431_1; replace hx431_2 := (cell_far (p := ⟨gb430, 0, none⟩) x68_4 (.int .i64 t428)).trans hx431_2; replace hx431_3 := (cell_far (p := ⟨gb430, 0, none⟩) x68_4 (.int .i64 t428)).trans hx431_3; replace hx431_4 := (cell_far (p := ⟨gb430, 0, none⟩) x68_4 (.int .i64 t428)).trans hx431_4; replace hx431_0 := (cell_far (p := ⟨gb430, 1, none⟩) x68_5 (.int .i64 t429)).trans hx431_0; replace hx431_1 := (cell_far (p := ⟨gb430, 1, none⟩) x68_5 (.int .i64 t429)).trans hx431_1; replace hx431_2 := (cell_far (p := ⟨gb430, 1, none⟩) x68_5 (.int .i64 t429)).trans hx431_2; replace hx431_3 := (cell_far (p := ⟨gb430, 1, none⟩) x68_5 (.int .i64 t429)).trans hx431_3; replace hx431_4 := (cell_far (p := ⟨gb430, 1, none⟩) x68_5 (.int .i64 t429)).trans hx431_4; clear hn431_0; clear hn431_1; replace p431 := eq_true p431; replace q431 := eq_true q431; have p432 : 0 ≤ (4 : Int) := (by omega); have q432 : 4 < (t425.length : Int) := of_decide_eq_true x68_14; obtain ⟨ad432, e432, hx432_0, hx432_1, hx432_2, hx432_3, hx432_4⟩ := at_T30 (Kd.R_reads' HO427.out).2.2 4 p432 q432; obtain rfl : ad431 = ad432 := (by injection e432); (try simp only [show (4 : Int).toNat = 4 from rfl, Nat.reduceMul, Nat.reduceEqDiff, Go.Addr.add, ↓reduceIte] at hx432_0); (try simp only [show (4 : Int).toNat = 4 from rfl, Nat.reduceMul, Nat.reduceEqDiff, Go.Addr.add, ↓reduceIte] at hx432_1); (try simp only [show (4 : Int).toNat = 4 from rfl, Nat.reduceMul, Nat.reduceEqDiff, Go.Addr.add, ↓reduceIte] at hx432_2); (try simp only [show (4 : Int).toNat = 4 from rfl, Nat.reduceMul, Nat.reduceEqDiff, Go.Addr.add, ↓reduceIte] at hx432_3); (try simp only [show (4 : Int).toNat = 4 from rfl, Nat.reduceMul, Nat.reduceEqDiff, Go.Addr.add, ↓reduceIte] at hx432_4); have qi432 : (4 < t425.length) = True := eq_true (by omega); (try rw [show ((4 : Int)).toNat = 4 from rfl] at hx432_0); (try rw [show 4 * 5 = 20 from rfl] at hx432_0); (try rw [show ((4 : Int)).toNat = 4 from rfl] at hx432_1); (try rw [show 4 * 5 = 20 from rfl] at hx432_1); (try rw [show ((4 : Int)).toNat = 4 from rfl] at hx432_2); (try rw [show 4 * 5 = 20 from rfl] at hx432_2); (try rw [show ((4 : Int)).toNat = 4 from rfl] at hx432_3); (try rw [show 4 * 5 = 20 from rfl] at hx432_3); (try rw [show ((4 : Int)).toNat = 4 from rfl] at hx432_4); (try rw [show 4 * 5 = 20 from rfl] at hx432_4); have hn432_0 : ad431.block ≠ gb430 := Kd.own_blk (Kd.R_ne HO427.out BK430.out (by decide)); have hn432_1 : ad431.block ≠ gb430 := Kd.own_blk (Kd.R_ne HO427.out BK430.out (by decide)); replace hx432_0 := (cell_far (p := ⟨gb430, 0, none⟩) x68_6 (.int .i64 t428)).trans hx432_0; replace hx432_1 := (cell_far (p := ⟨gb430, 0, none⟩) x68_6 (.int .i64 t428)).trans hx432_1; replace hx432_2 := (cell_far (p := ⟨gb430, 0, none⟩) x68_6 (.int .i64 t428)).trans hx432_2; replace hx432_3 := (cell_far (p := ⟨gb430, 0, none⟩) x68_6 (.int .i64 t428)).trans hx432_3; replace hx432_4 := (cell_far (p := ⟨gb430, 0, none⟩) x68_6 (.int .i64 t428)).trans hx432_4; replace hx432_0 := (cell_far (p := ⟨gb430, 1, none⟩) x68_7 (.int .i64 t429)).trans hx432_0; replace hx432_1 := (cell_far (p := ⟨gb430, 1, none⟩) x68_7 (.int .i64 t429)).trans hx432_1; replace hx432_2 := (cell_far (p := ⟨gb430, 1, none⟩) x68_7 (.int .i64 t429)).trans hx432_2; replace hx432_3 := (cell_far (p := ⟨gb430, 1, none⟩) x68_7 (.int .i64 t429)).trans hx432_3; replace hx432_4 := (cell_far (p := ⟨gb430, 1, none⟩) x68_7 (.int .i64 t429)).trans hx432_4; clear hn432_0; clear hn432_1; replace p432 := eq_true p432; replace q432 := eq_true q432; have p433 : 0 ≤ (6 : Int) := (by omega); have q433 : 6 < (t425.length : Int) := of_decide_eq_true x68_14; obtain ⟨ad433, e433, hx433_0, hx433_1, hx433_2, hx433_3, hx433_4⟩ := at_T30 (Kd.R_reads' HO427.out).2.2 6 p433 q433; obtain rfl : ad431 = ad433 := (by injection e433); (try simp only [show (6 : Int).toNat = 6 from rfl, Nat.reduceMul, Nat.reduceEqDiff, Go.Addr.add, ↓reduceIte] at hx433_0); (try simp only [show (6 : Int).toNat = 6 from rfl, Nat.reduceMul, Nat.reduceEqDiff, Go.Addr.add, ↓reduceIte] at hx433_1); (try simp only [show (6 : Int).toNat = 6 from rfl, Nat.reduceMul, Nat.reduceEqDiff, Go.Addr.add, ↓reduceIte] at hx433_2); (try simp only [show (6 : Int).toNat = 6 from rfl, Nat.reduceMul, Nat.reduceEqDiff, Go.Addr.add, ↓reduceIte] at hx433_3); (try simp only [show (6 : Int).toNat = 6 from rfl, Nat.reduceMul, Nat.reduceEqDiff, Go.Addr.add, ↓reduceIte] at hx433_4); have qi433 : (6 < t425.length) = True := eq_true (by omega); (try rw [show ((6 : Int)).toNat = 6 from rfl] at hx433_0); (try rw [show 6 * 5 = 30 from rfl] at hx433_0); (try rw [show ((6 : Int)).toNat = 6 from rfl] at hx433_1); (try rw [show 6 * 5 = 30 from rfl] at hx433_1); (try rw [show ((6 : Int)).toNat = 6 from rfl] at hx433_2); (try rw [show 6 * 5 = 30 from rfl] at hx433_2); (try rw [show ((6 : Int)).toNat = 6 from rfl] at hx433_3); (try rw [show 6 * 5 = 30 from rfl] at hx433_3); (try rw [show ((6 : Int)).toNat = 6 from rfl] at hx433_4); (try rw [show 6 * 5 = 30 from rfl] at hx433_4); have hn433_0 : ad431.block ≠ gb430 := Kd.own_blk (Kd.R_ne HO427.out BK430.out (by decide)); have hn433_1 : ad431.block ≠ gb430 := Kd.own_blk (Kd.R_ne HO427.out BK430.out (by decide)); replace hx433_0 := (cell_far (p := ⟨gb430, 0, none⟩) x68_8 (.int .i64 t428)).trans hx433_0; replace hx433_1 := (cell_far (p := ⟨gb430, 0, none⟩) x68_8 (.int .i64 t428)).trans hx433_1; replace hx433_2 := (cell_far (p := ⟨gb430, 0, none⟩) x68_8 (.int .i64 t428)).trans hx433_2; replace hx433_3 := (cell_far (p := ⟨gb430, 0, none⟩) x68_8 (.int .i64 t428)).trans hx433_3; replace hx433_4 := (cell_far (p := ⟨gb430, 0, none⟩) x68_8 (.int .i64 t428)).trans hx433_4; replace hx433_0 := (cell_far (p := ⟨gb430, 1, none⟩) x68_9 (.int .i64 t429)).trans hx433_0; replace hx433_1 := (cell_far (p := ⟨gb430, 1, none⟩) x68_9 (.int .i64 t429)).trans hx433_1; replace hx433_2 := (cell_far (p := ⟨gb430, 1, none⟩) x68_9 (.int .i64 t429)).trans hx433_2; replace hx433_3 := (cell_far (p := ⟨gb430, 1, none⟩) x68_9 (.int .i64 t429)).trans hx433_3; replace hx433_4 := (cell_far (p := ⟨gb430, 1, none⟩) x68_9 (.int .i64 t429)).trans hx433_4; clear hn433_0; clear hn433_1; replace p433 := eq_true p433; replace q433 := eq_true q433; have p434 : 0 ≤ (6 : Int) := (by omega); have q434 : 6 < (t425.length : Int) := of_decide_eq_true x68_14; obtain ⟨ad434, e434, hx434_0, hx434_1, hx434_2, hx434_3, hx434_4⟩ := at_T30 (Kd.R_reads' HO427.out).2.2 6 p434 q434; obtain rfl : ad431 = ad434 := (by injection e434); (try simp only [show (6 : Int).toNat = 6 from rfl, Nat.reduceMul, Nat.reduceEqDiff, Go.Addr.add, ↓reduceIte] at hx434_0); (try simp only [show (6 : Int).toNat = 6 from rfl, Nat.reduceMul, Nat.reduceEqDiff, Go.Addr.add, ↓reduceIte] at hx434_1); (try simp only [show (6 : Int).toNat = 6 from rfl, Nat.reduceMul, Nat.reduceEqDiff, Go.Addr.add, ↓reduceIte] at hx434_2); (try simp only [show (6 : Int).toNat = 6 from rfl, Nat.reduceMul, Nat.reduceEqDiff, Go.Addr.add, ↓reduceIte] at hx434_3); (try simp only [show (6 : Int).toNat = 6 from rfl, Nat.reduceMul, Nat.reduceEqDiff, Go.Addr.add, ↓reduceIte] at hx434_4); have qi434 : (6 < t425.length) = True := eq_true (by omega); (try rw [show ((6 : Int)).toNat = 6 from rfl] at hx434_0); (try rw [show 6 * 5 = 30 from rfl] at hx434_0); (try rw [show ((6 : Int)).toNat = 6 from rfl] at hx434_1); (try rw [show 6 * 5 = 30 from rfl] at hx434_1); (try rw [show ((6 : Int)).toNat = 6 from rfl] at hx434_2); (try rw [show 6 * 5 = 30 from rfl] at hx434_2); (try rw [show ((6 : Int)).toNat = 6 from rfl] at hx434_3); (try rw [show 6 * 5 = 30 from rfl] at hx434_3); (try rw [show ((6 : Int)).toNat = 6 from rfl] at hx434_4); (try rw [show 6 * 5 = 30 from rfl] at hx434_4); have hn434_0 : ad431.block ≠ gb430 := Kd.own_blk (Kd.R_ne HO427.out BK430.out (by decide)); have hn434_1 : ad431.block ≠ gb430 := Kd.own_blk (Kd.R_ne HO427.out BK430.out (by decide)); replace hx434_0 := (cell_far (p := ⟨gb430, 0, none⟩) x68_10 (.int .i64 t428)).trans hx434_0; replace hx434_1 := (cell_far (p := ⟨gb430, 0, none⟩) x68_10 (.int .i64 t428)).trans hx434_1; replace hx434_2 := (cell_far (p := ⟨gb430, 0, none⟩) x68_10 (.int .i64 t428)).trans hx434_2; replace hx434_3 := (cell_far (p := ⟨gb430, 0, none⟩) x68_10 (.int .i64 t428)).trans hx434_3; replace hx434_4 := (cell_far (p := ⟨gb430, 0, none⟩) x68_10 (.int .i64 t428)).trans hx434_4; replace hx434_0 := (cell_far (p := ⟨gb430, 1, none⟩) x68_11 (.int .i64 t429)).trans hx434_0; replace hx434_1 := (cell_far (p := ⟨gb430, 1, none⟩) x68_11 (.int .i64 t429)).trans hx434_1; replace hx434_2 := (cell_far (p := ⟨gb430, 1, none⟩) x68_11 (.int .i64 t429)).trans hx434_2; replace hx434_3 := (cell_far (p := ⟨gb430, 1, none⟩) x68_11 (.int .i64 t429)).trans hx434_3; replace hx434_4 := (cell_far (p := ⟨gb430, 1, none⟩) x68_11 (.int .i64 t429)).trans hx434_4; clear hn434_0; clear hn434_1; replace p434 := eq_true p434; replace q434 := eq_true q434))
         go_ret
         exact ⟨x68_13, x68_1⟩
       ·rw [if_neg c8] at H
        have c8b0 := beq_eq_false_iff_ne.mpr c8
        have c8b1 := bne_iff_ne.mpr c8
        obtain rfl := Option.some.inj H
        go_enter Tryd.func12, Tryd.ntmps12
        go_wp2_with (first | ((with_reducible refine gate_callee (f := 9) rfl ?_); refine goesL_ (some 4) rfl rfl Tryd.func9 (by kernel_rfl) rfl #[.string (⟨#[108, 101, 116, 32, 120, 61, 49, 46, 46, 50, 32, 35, 32, 121]⟩ : ByteArray)] rfl x68_2 ?_; (with_reducible refine (lex_All.calls (hG := x68_0) (⟨#[108, 101, 116, 32, 120, 61, 49, 46, 46, 50, 32, 35, 32, 121]⟩ : ByteArray) t425 t428 t429 _ A1.out).mono ?_); rintro e w18 ⟨v426, rfl, ho0, hb⟩; refine ⟨_, rfl, ?_⟩; have n0_ := Aside0.mk (Kd.R_lower ho0 (below_size x68_3)); have n1_ := Aside0.mk (below_step x68_3 hb); clear HB; have HO427 := n0_; have HB := n1_; clear n0_ n1_) | ((with_reducible refine gate_dst (N := 2) rfl ?_); refine box_event ?hg (N := 2) ?hd (cs := #[.int .i64 0, .int .i64 0]) (t := 25) ?hr ?_; (case hd => rfl); (case hg => rfl); (case hr => first | (go_simp; done) | (go_simp; rfl)); intro gb430 hg w19 hbox hb; have n0_ := Aside0.mk (Kd.R_below x68_12 hb); have n1_ := Aside0.mk (below_step x68_3 hb); have n2_ := Aside0.mk (hbox); have n3_ := Aside0.mk ((by rw [hg]; exact (below_size x68_3) : w.heap.size ≤ gb430)); have n4_ := Aside0.mk ((by rw [hg]; exact (below_size x68_3) : w.heap.size ≤ gb430)); clear HO427; clear HB; have HO427 := n0_; have HB := n1_; have BK430 := n2_; have GW430 := n3_; have GE430 := n4_; clear n0_ n1_ n2_ n3_ n4_; clear hb hbox hg; have hcz20_0 : w19.cell? ⟨gb430, 0, none⟩ = some (.int .i64 0) := (blk_cell BK430.out 0).trans rfl; have hcz20_1 : w19.cell? ⟨gb430, 1, none⟩ = some (.int .i64 0) := (blk_cell BK430.out 1).trans rfl; have hfz20_0 := blk_frozen BK430.out 0; have hfz20_1 := blk_frozen BK430.out 1; obtain ⟨Ao21, co21, eo21⟩ := Kd.R_slice HO427.out; subst eo21; have p431 : 0 ≤ (1 : Int) := (by omega); have q431 : 1 < (t425.length : Int) := of_decide_eq_true x68_14; obtain ⟨ad431, e431, hx431_0, hx431_1, hx431_2, hx431_3, hx431_4⟩ := at_T30 (Kd.R_reads' HO427.out).2.2 1 p431 q431; cases e431; (try simp only [show (1 : Int).toNat = 1 from rfl, Nat.reduceMul, Nat.reduceEqDiff, Go.Addr.add, ↓reduceIte] at hx431_0); (try simp only [show (1 : Int).toNat = 1 from rfl, Nat.reduceMul, Nat.reduceEqDiff, Go.Addr.add, ↓reduceIte] at hx431_1); (try simp only [show (1 : Int).toNat = 1 from rfl, Nat.reduceMul, Nat.reduceEqDiff, Go.Addr.add, ↓reduceIte] at hx431_2); (try simp only [show (1 : Int).toNat = 1 from rfl, Nat.reduceMul, Nat.reduceEqDiff, Go.Addr.add, ↓reduceIte] at hx431_3); (try simp only [show (1 : Int).toNat = 1 from rfl, Nat.reduceMul, Nat.reduceEqDiff, Go.Addr.add, ↓reduceIte] at hx431_4); have qi431 : (1 < t425.length) = True := eq_true (by omega); (try rw [show ((1 : Int)).toNat = 1 from rfl] at hx431_0); (try rw [show 1 * 5 = 5 from rfl] at hx431_0); (try rw [show ((1 : Int)).toNat = 1 from rfl] at hx431_1); (try rw [show 1 * 5 = 5 from rfl] at hx431_1); (try rw [show ((1 : Int)).toNat = 1 from rfl] at hx431_2); (try rw [show 1 * 5 = 5 from rfl] at hx431_2); (try rw [show ((1 : Int)).toNat = 1 from rfl] at hx431_3); (try rw [show 1 * 5 = 5 from rfl] at hx431_3); (try rw [show ((1 : Int)).toNat = 1 from rfl] at hx431_4); (try rw [show 1 * 5 = 5 from rfl] at hx431_4); have hn431_0 : ad431.block ≠ gb430 := Kd.own_blk (Kd.R_ne HO427.out BK430.out (by decide)); have hn431_1 : ad431.block ≠ gb430 := Kd.own_blk (Kd.R_ne HO427.out BK430.out (by decide)); replace hx431_0 := (cell_far (p := ⟨gb430, 0, none⟩) x68_4 (.int .i64 t428)).trans hx431_0; replace hx431_1 := (cell_far (p := ⟨gb430, 0, none⟩) x68_4 (.int .i64 t428)).trans hx431_1; replace hx431_2 := (cell_far (p := ⟨gb430, 0, none⟩) x68_4 (.int .i64 t428)).trans hx431_2; replace hx431_3 := (cell_far (p := ⟨gb430, 0, none⟩) x68_4 (.int .i64 t428)).trans hx431_3; replace hx431_4 := (cell_far (p := ⟨gb430, 0, none⟩) x68_4 (.int .i64 t428)).trans hx431_4; replace hx431_0 := (cell_far (p := ⟨gb430, 1, none⟩) x68_5 (.int .i64 t429)).trans hx431_0; replace hx431_1 := (cell_far (p := ⟨gb430, 1, none⟩) x68_5 (.int .i64 t429)).trans hx431_1; replace hx431_2 := (cell_far (p := ⟨gb430, 1, none⟩) x68_5 (.int .i64 t429)).trans hx431_2; replace hx431_3 := (cell_far (p := ⟨gb430, 1, none⟩) x68_5 (.int .i64 t429)).trans hx431_3; replace hx431_4 := (cell_far (p := ⟨gb430, 1, none⟩) x68_5 (.int .i64 t429)).trans hx431_4; clear hn431_0; clear hn431_1; replace p431 := eq_true p431; replace q431 := eq_true q431; have p432 : 0 ≤ (4 : Int) := (by omega); have q432 : 4 < (t425.length : Int) := of_decide_eq_true x68_14; obtain ⟨ad432, e432, hx432_0, hx432_1, hx432_2, hx432_3, hx432_4⟩ := at_T30 (Kd.R_reads' HO427.out).2.2 4 p432 q432; obtain rfl : ad431 = ad432 := (by injection e432); (try simp only [show (4 : Int).toNat = 4 from rfl, Nat.reduceMul, Nat.reduceEqDiff, Go.Addr.add, ↓reduceIte] at hx432_0); (try simp only [show (4 : Int).toNat = 4 from rfl, Nat.reduceMul, Nat.reduceEqDiff, Go.Addr.add, ↓reduceIte] at hx432_1); (try simp only [show (4 : Int).toNat = 4 from rfl, Nat.reduceMul, Nat.reduceEqDiff, Go.Addr.add, ↓reduceIte] at hx432_2); (try simp only [show (4 : Int).toNat = 4 from rfl, Nat.reduceMul, Nat.reduceEqDiff, Go.Addr.add, ↓reduceIte] at hx432_3); (try simp only [show (4 : Int).toNat = 4 from rfl, Nat.reduceMul, Nat.reduceEqDiff, Go.Addr.add, ↓reduceIte] at hx432_4); have qi432 : (4 < t425.length) = True := eq_true (by omega); (try rw [show ((4 : Int)).toNat = 4 from rfl] at hx432_0); (try rw [show 4 * 5 = 20 from rfl] at hx432_0); (try rw [show ((4 : Int)).toNat = 4 from rfl] at hx432_1); (try rw [show 4 * 5 = 20 from rfl] at hx432_1); (try rw [show ((4 : Int)).toNat = 4 from rfl] at hx432_2); (try rw [show 4 * 5 = 20 from rfl] at hx432_2); (try rw [show ((4 : Int)).toNat = 4 from rfl] at hx432_3); (try rw [show 4 * 5 = 20 from rfl] at hx432_3); (try rw [show ((4 : Int)).toNat = 4 from rfl] at hx432_4); (try rw [show 4 * 5 = 20 from rfl] at hx432_4); have hn432_0 : ad431.block ≠ gb430 := Kd.own_blk (Kd.R_ne HO427.out BK430.out (by decide)); have hn432_1 : ad431.block ≠ gb430 := Kd.own_blk (Kd.R_ne HO427.out BK430.out (by decide)); replace hx432_0 := (cell_far (p := ⟨gb430, 0, none⟩) x68_6 (.int .i64 t428)).trans hx432_0; replace hx432_1 := (cell_far (p := ⟨gb430, 0, none⟩) x68_6 (.int .i64 t428)).trans hx432_1; replace hx432_2 := (cell_far (p := ⟨gb430, 0, none⟩) x68_6 (.int .i64 t428)).trans hx432_2; replace hx432_3 := (cell_far (p := ⟨gb430, 0, none⟩) x68_6 (.int .i64 t428)).trans hx432_3; replace hx432_4 := (cell_far (p := ⟨gb430, 0, none⟩) x68_6 (.int .i64 t428)).trans hx432_4; replace hx432_0 := (cell_far (p := ⟨gb430, 1, none⟩) x68_7 (.int .i64 t429)).trans hx432_0; replace hx432_1 := (cell_far (p := ⟨gb430, 1, none⟩) x68_7 (.int .i64 t429)).trans hx432_1; replace hx432_2 := (cell_far (p := ⟨gb430, 1, none⟩) x68_7 (.int .i64 t429)).trans hx432_2; replace hx432_3 := (cell_far (p := ⟨gb430, 1, none⟩) x68_7 (.int .i64 t429)).trans hx432_3; replace hx432_4 := (cell_far (p := ⟨gb430, 1, none⟩) x68_7 (.int .i64 t429)).trans hx432_4; clear hn432_0; clear hn432_1; replace p432 := eq_true p432; replace q432 := eq_true q432; have p433 : 0 ≤ (6 : Int) := (by omega); have q433 : 6 < (t425.length : Int) := of_decide_eq_true x68_14; obtain ⟨ad433, e433, hx433_0, hx433_1, hx433_2, hx433_3, hx433_4⟩ := at_T30 (Kd.R_reads' HO427.out).2.2 6 p433 q433; obtain rfl : ad431 = ad433 := (by injection e433); (try simp only [show (6 : Int).toNat = 6 from rfl, Nat.reduceMul, Nat.reduceEqDiff, Go.Addr.add, ↓reduceIte] at hx433_0); (try simp only [show (6 : Int).toNat = 6 from rfl, Nat.reduceMul, Nat.reduceEqDiff, Go.Addr.add, ↓reduceIte] at hx433_1); (try simp only [show (6 : Int).toNat = 6 from rfl, Nat.reduceMul, Nat.reduceEqDiff, Go.Addr.add, ↓reduceIte] at hx433_2); (try simp only [show (6 : Int).toNat = 6 from rfl, Nat.reduceMul, Nat.reduceEqDiff, Go.Addr.add, ↓reduceIte] at hx433_3); (try simp only [show (6 : Int).toNat = 6 from rfl, Nat.reduceMul, Nat.reduceEqDiff, Go.Addr.add, ↓reduceIte] at hx433_4); have qi433 : (6 < t425.length) = True := eq_true (by omega); (try rw [show ((6 : Int)).toNat = 6 from rfl] at hx433_0); (try rw [show 6 * 5 = 30 from rfl] at hx433_0); (try rw [show ((6 : Int)).toNat = 6 from rfl] at hx433_1); (try rw [show 6 * 5 = 30 from rfl] at hx433_1); (try rw [show ((6 : Int)).toNat = 6 from rfl] at hx433_2); (try rw [show 6 * 5 = 30 from rfl] at hx433_2); (try rw [show ((6 : Int)).toNat = 6 from rfl] at hx433_3); (try rw [show 6 * 5 = 30 from rfl] at hx433_3); (try rw [show ((6 : Int)).toNat = 6 from rfl] at hx433_4); (try rw [show 6 * 5 = 30 from rfl] at hx433_4); have hn433_0 : ad431.block ≠ gb430 := Kd.own_blk (Kd.R_ne HO427.out BK430.out (by decide)); have hn433_1 : ad431.block ≠ gb430 := Kd.own_blk (Kd.R_ne HO427.out BK430.out (by decide)); replace hx433_0 := (cell_far (p := ⟨gb430, 0, none⟩) x68_8 (.int .i64 t428)).trans hx433_0; replace hx433_1 := (cell_far (p := ⟨gb430, 0, none⟩) x68_8 (.int .i64 t428)).trans hx433_1; replace hx433_2 := (cell_far (p := ⟨gb430, 0, none⟩) x68_8 (.int .i64 t428)).trans hx433_2; replace hx433_3 := (cell_far (p := ⟨gb430, 0, none⟩) x68_8 (.int .i64 t428)).trans hx433_3; replace hx433_4 := (cell_far (p := ⟨gb430, 0, none⟩) x68_8 (.int .i64 t428)).trans hx433_4; replace hx433_0 := (cell_far (p := ⟨gb430, 1, none⟩) x68_9 (.int .i64 t429)).trans hx433_0; replace hx433_1 := (cell_far (p := ⟨gb430, 1, none⟩) x68_9 (.int .i64 t429)).trans hx433_1; replace hx433_2 := (cell_far (p := ⟨gb430, 1, none⟩) x68_9 (.int .i64 t429)).trans hx433_2; replace hx433_3 := (cell_far (p := ⟨gb430, 1, none⟩) x68_9 (.int .i64 t429)).trans hx433_3; replace hx433_4 := (cell_far (p := ⟨gb430, 1, none⟩) x68_9 (.int .i64 t429)).trans hx433_4; clear hn433_0; clear hn433_1; replace p433 := eq_true p433; replace q433 := eq_true q433))
        go_ret
        exact ⟨x68_13, x68_1⟩
      ·rw [if_neg c7] at H
       exact absurd H (by simp)
     ·rw [if_neg c6] at H
      have c6b0 : (((rd_T30 t425 4).f0) == 3 && (((rd_T30 t425 4).f1) == 7 && ((((rd_T30 t425 4).f2).toList) == ([46, 46] : List UInt8) && (((rd_T30 t425 4).f3) == 0 && (((rd_T30 t425 4).f4) == 0))))) = false := by simpa using c6
      (try (have c6b1 : decide (((rd_T30 t425 4).f0) = 3 && (((rd_T30 t425 4).f1) == 7 && ((((rd_T30 t425 4).f2).toList) == ([46, 46] : List UInt8) && (((rd_T30 t425 4).f3) == 0 && (((rd_T30 t425 4).f4) == 0))))) = false := by simpa using c6))
      (try (have c6b2 : (((rd_T30 t425 4).f0) == 3 && (((rd_T30 t425 4).f1) == 7 && ((((rd_T30 t425 4).f2).toList) == ([46, 46] : List UInt8) && (((rd_T30 t425 4).f3) == 0 && (((rd_T30 t425 4).f4) == 0))))) = false := by simpa using c6))
      (try (have c6b3 : ¬ (((rd_T30 t425 4).f0) = 3 && (((rd_T30 t425 4).f1) == 7 && ((((rd_T30 t425 4).f2).toList) == ([46, 46] : List UInt8) && (((rd_T30 t425 4).f3) == 0 && (((rd_T30 t425 4).f4) == 0))))) := by simpa using c6))
      clear c6
      obtain rfl := Option.some.inj H
      go_enter Tryd.func12, Tryd.ntmps12
      go_wp2_with (first | ((with_reducible refine gate_callee (f := 9) rfl ?_); refine goesL_ (some 4) rfl rfl Tryd.func9 (by kernel_rfl) rfl #[.string (⟨#[108, 101, 116, 32, 120, 61, 49, 46, 46, 50, 32, 35, 32, 121]⟩ : ByteArray)] rfl x68_2 ?_; (with_reducible refine (lex_All.calls (hG := x68_0) (⟨#[108, 101, 116, 32, 120, 61, 49, 46, 46, 50, 32, 35, 32, 121]⟩ : ByteArray) t425 t428 t429 _ A1.out).mono ?_); rintro e w22 ⟨v426, rfl, ho0, hb⟩; refine ⟨_, rfl, ?_⟩; have n0_ := Aside0.mk (Kd.R_lower ho0 (below_size x68_3)); have n1_ := Aside0.mk (below_step x68_3 hb); clear HB; have HO427 := n0_; have HB := n1_; clear n0_ n1_) | ((with_reducible refine gate_dst (N := 2) rfl ?_); refine box_event ?hg (N := 2) ?hd (cs := #[.int .i64 0, .int .i64 0]) (t := 25) ?hr ?_; (case hd => rfl); (case hg => rfl); (case hr => first | (go_simp; done) | (go_simp; rfl)); intro gb430 hg w23 hbox hb; have n0_ := Aside0.mk (Kd.R_below x68_12 hb); have n1_ := Aside0.mk (below_step x68_3 hb); have n2_ := Aside0.mk (hbox); have n3_ := Aside0.mk ((by rw [hg]; exact (below_size x68_3) : w.heap.size ≤ gb430)); have n4_ := Aside0.mk ((by rw [hg]; exact (below_size x68_3) : w.heap.size ≤ gb430)); clear HO427; clear HB; have HO427 := n0_; have HB := n1_; have BK430 := n2_; have GW430 := n3_; have GE430 := n4_; clear n0_ n1_ n2_ n3_ n4_; clear hb hbox hg; have hcz24_0 : w23.cell? ⟨gb430, 0, none⟩ = some (.int .i64 0) := (blk_cell BK430.out 0).trans rfl; have hcz24_1 : w23.cell? ⟨gb430, 1, none⟩ = some (.int .i64 0) := (blk_cell BK430.out 1).trans rfl; have hfz24_0 := blk_frozen BK430.out 0; have hfz24_1 := blk_frozen BK430.out 1; obtain ⟨Ao25, co25, eo25⟩ := Kd.R_slice HO427.out; subst eo25; have p431 : 0 ≤ (1 : Int) := (by omega); have q431 : 1 < (t425.length : Int) := of_decide_eq_true x68_14; obtain ⟨ad431, e431, hx431_0, hx431_1, hx431_2, hx431_3, hx431_4⟩ := at_T30 (Kd.R_reads' HO427.out).2.2 1 p431 q431; cases e431; (try simp only [show (1 : Int).toNat = 1 from rfl, Nat.reduceMul, Nat.reduceEqDiff, Go.Addr.add, ↓reduceIte] at hx431_0); (try simp only [show (1 : Int).toNat = 1 from rfl, Nat.reduceMul, Nat.reduceEqDiff, Go.Addr.add, ↓reduceIte] at hx431_1); (try simp only [show (1 : Int).toNat = 1 from rfl, Nat.reduceMul, Nat.reduceEqDiff, Go.Addr.add, ↓reduceIte] at hx431_2); (try simp only [show (1 : Int).toNat = 1 from rfl, Nat.reduceMul, Nat.reduceEqDiff, Go.Addr.add, ↓reduceIte] at hx431_3); (try simp only [show (1 : Int).toNat = 1 from rfl, Nat.reduceMul, Nat.reduceEqDiff, Go.Addr.add, ↓reduceIte] at hx431_4); have qi431 : (1 < t425.length) = True := eq_true (by omega); (try rw [show ((1 : Int)).toNat = 1 from rfl] at hx431_0); (try rw [show 1 * 5 = 5 from rfl] at hx431_0); (try rw [show ((1 : Int)).toNat = 1 from rfl] at hx431_1); (try rw [show 1 * 5 = 5 from rfl] at hx431_1); (try rw [show ((1 : Int)).toNat = 1 from rfl] at hx431_2); (try rw [show 1 * 5 = 5 from rfl] at hx431_2); (try rw [show ((1 : Int)).toNat = 1 from rfl] at hx431_3); (try rw [show 1 * 5 = 5 from rfl] at hx431_3); (try rw [show ((1 : Int)).toNat = 1 from rfl] at hx431_4); (try rw [show 1 * 5 = 5 from rfl] at hx431_4); have hn431_0 : ad431.block ≠ gb430 := Kd.own_blk (Kd.R_ne HO427.out BK430.out (by decide)); have hn431_1 : ad431.block ≠ gb430 := Kd.own_blk (Kd.R_ne HO427.out BK430.out (by decide)); replace hx431_0 := (cell_far (p := ⟨gb430, 0, none⟩) x68_4 (.int .i64 t428)).trans hx431_0; replace hx431_1 := (cell_far (p := ⟨gb430, 0, none⟩) x68_4 (.int .i64 t428)).trans hx431_1; replace hx431_2 := (cell_far (p := ⟨gb430, 0, none⟩) x68_4 (.int .i64 t428)).trans hx431_2; replace hx431_3 := (cell_far (p := ⟨gb430, 0, none⟩) x68_4 (.int .i64 t428)).trans hx431_3; replace hx431_4 := (cell_far (p := ⟨gb430, 0, none⟩) x68_4 (.int .i64 t428)).trans hx431_4; replace hx431_0 := (cell_far (p := ⟨gb430, 1, none⟩) x68_5 (.int .i64 t429)).trans hx431_0; replace hx431_1 := (cell_far (p := ⟨gb430, 1, none⟩) x68_5 (.int .i64 t429)).trans hx431_1; replace hx431_2 := (cell_far (p := ⟨gb430, 1, none⟩) x68_5 (.int .i64 t429)).trans hx431_2; replace hx431_3 := (cell_far (p := ⟨gb430, 1, none⟩) x68_5 (.int .i64 t429)).trans hx431_3; replace hx431_4 := (cell_far (p := ⟨gb430, 1, none⟩) x68_5 (.int .i64 t429)).trans hx431_4; clear hn431_0; clear hn431_1; replace p431 := eq_true p431; replace q431 := eq_true q431; have p432 : 0 ≤ (4 : Int) := (by omega); have q432 : 4 < (t425.length : Int) := of_decide_eq_true x68_14; obtain ⟨ad432, e432, hx432_0, hx432_1, hx432_2, hx432_3, hx432_4⟩ := at_T30 (Kd.R_reads' HO427.out).2.2 4 p432 q432; obtain rfl : ad431 = ad432 := (by injection e432); (try simp only [show (4 : Int).toNat = 4 from rfl, Nat.reduceMul, Nat.reduceEqDiff, Go.Addr.add, ↓reduceIte] at hx432_0); (try simp only [show (4 : Int).toNat = 4 from rfl, Nat.reduceMul, Nat.reduceEqDiff, Go.Addr.add, ↓reduceIte] at hx432_1); (try simp only [show (4 : Int).toNat = 4 from rfl, Nat.reduceMul, Nat.reduceEqDiff, Go.Addr.add, ↓reduceIte] at hx432_2); (try simp only [show (4 : Int).toNat = 4 from rfl, Nat.reduceMul, Nat.reduceEqDiff, Go.Addr.add, ↓reduceIte] at hx432_3); (try simp only [show (4 : Int).toNat = 4 from rfl, Nat.reduceMul, Nat.reduceEqDiff, Go.Addr.add, ↓reduceIte] at hx432_4); have qi432 : (4 < t425.length) = True := eq_true (by omega); (try rw [show ((4 : Int)).toNat = 4 from rfl] at hx432_0); (try rw [show 4 * 5 = 20 from rfl] at hx432_0); (try rw [show ((4 : Int)).toNat = 4 from rfl] at hx432_1); (try rw [show 4 * 5 = 20 from rfl] at hx432_1); (try rw [show ((4 : Int)).toNat = 4 from rfl] at hx432_2); (try rw [show 4 * 5 = 20 from rfl] at hx432_2); (try rw [show ((4 : Int)).toNat = 4 from rfl] at hx432_3); (try rw [show 4 * 5 = 20 from rfl] at hx432_3); (try rw [show ((4 : Int)).toNat = 4 from rfl] at hx432_4); (try rw [show 4 * 5 = 20 from rfl] at hx432_4); have hn432_0 : ad431.block ≠ gb430 := Kd.own_blk (Kd.R_ne HO427.out BK430.out (by decide)); have hn432_1 : ad431.block ≠ gb430 := Kd.own_blk (Kd.R_ne HO427.out BK430.out (by decide)); replace hx432_0 := (cell_far (p := ⟨gb430, 0, none⟩) x68_6 (.int .i64 t428)).trans hx432_0; replace hx432_1 := (cell_far (p := ⟨gb430, 0, none⟩) x68_6 (.int .i64 t428)).trans hx432_1; replace hx432_2 := (cell_far (p := ⟨gb430, 0, none⟩) x68_6 (.int .i64 t428)).trans hx432_2; replace hx432_3 := (cell_far (p := ⟨gb430, 0, none⟩) x68_6 (.int .i64 t428)).trans hx432_3; replace hx432_4 := (cell_far (p := ⟨gb430, 0, none⟩) x68_6 (.int .i64 t428)).trans hx432_4; replace hx432_0 := (cell_far (p := ⟨gb430, 1, none⟩) x68_7 (.int .i64 t429)).trans hx432_0; replace hx432_1 := (cell_far (p := ⟨gb430, 1, none⟩) x68_7 (.int .i64 t429)).trans hx432_1; replace hx432_2 := (cell_far (p := ⟨gb430, 1, none⟩) x68_7 (.int .i64 t429)).trans hx432_2; replace hx432_3 := (cell_far (p := ⟨gb430, 1, none⟩) x68_7 (.int .i64 t429)).trans hx432_3; replace hx432_4 := (cell_far (p := ⟨gb430, 1, none⟩) x68_7 (.int .i64 t429)).trans hx432_4; clear hn432_0; clear hn432_1; replace p432 := eq_true p432; replace q432 := eq_true q432))
      go_ret
      exact ⟨x68_13, x68_1⟩
    ·rw [if_neg c5] at H
     exact absurd H (by simp)
   ·rw [if_neg c4] at H
    have c4b0 : (((rd_T30 t425 1).f0) == 1 && (((rd_T30 t425 1).f1) == 4 && ((((rd_T30 t425 1).f2).toList) == ([120] : List UInt8) && (((rd_T30 t425 1).f3) == 0 && (((rd_T30 t425 1).f4) == 0))))) = false := by simpa using c4
    (try (have c4b1 : decide (((rd_T30 t425 1).f0) = 1 && (((rd_T30 t425 1).f1) == 4 && ((((rd_T30 t425 1).f2).toList) == ([120] : List UInt8) && (((rd_T30 t425 1).f3) == 0 && (((rd_T30 t425 1).f4) == 0))))) = false := by simpa using c4))
    (try (have c4b2 : (((rd_T30 t425 1).f0) == 1 && (((rd_T30 t425 1).f1) == 4 && ((((rd_T30 t425 1).f2).toList) == ([120] : List UInt8) && (((rd_T30 t425 1).f3) == 0 && (((rd_T30 t425 1).f4) == 0))))) = false := by simpa using c4))
    (try (have c4b3 : ¬ (((rd_T30 t425 1).f0) = 1 && (((rd_T30 t425 1).f1) == 4 && ((((rd_T30 t425 1).f2).toList) == ([120] : List UInt8) && (((rd_T30 t425 1).f3) == 0 && (((rd_T30 t425 1).f4) == 0))))) := by simpa using c4))
    clear c4
    obtain rfl := Option.some.inj H
    go_enter Tryd.func12, Tryd.ntmps12
    go_wp2_with (first | ((with_reducible refine gate_callee (f := 9) rfl ?_); refine goesL_ (some 4) rfl rfl Tryd.func9 (by kernel_rfl) rfl #[.string (⟨#[108, 101, 116, 32, 120, 61, 49, 46, 46, 50, 32, 35, 32, 121]⟩ : ByteArray)] rfl x68_2 ?_; (with_reducible refine (lex_All.calls (hG := x68_0) (⟨#[108, 101, 116, 32, 120, 61, 49, 46, 46, 50, 32, 35, 32, 121]⟩ : ByteArray) t425 t428 t429 _ A1.out).mono ?_); rintro e w26 ⟨v426, rfl, ho0, hb⟩; refine ⟨_, rfl, ?_⟩; have n0_ := Aside0.mk (Kd.R_lower ho0 (below_size x68_3)); have n1_ := Aside0.mk (below_step x68_3 hb); clear HB; have HO427 := n0_; have HB := n1_; clear n0_ n1_) | ((with_reducible refine gate_dst (N := 2) rfl ?_); refine box_event ?hg (N := 2) ?hd (cs := #[.int .i64 0, .int .i64 0]) (t := 25) ?hr ?_; (case hd => rfl); (case hg => rfl); (case hr => first | (go_simp; done) | (go_simp; rfl)); intro gb430 hg w27 hbox hb; have n0_ := Aside0.mk (Kd.R_below x68_12 hb); have n1_ := Aside0.mk (below_step x68_3 hb); have n2_ := Aside0.mk (hbox); have n3_ := Aside0.mk ((by rw [hg]; exact (below_size x68_3) : w.heap.size ≤ gb430)); have n4_ := Aside0.mk ((by rw [hg]; exact (below_size x68_3) : w.heap.size ≤ gb430)); clear HO427; clear HB; have HO427 := n0_; have HB := n1_; have BK430 := n2_; have GW430 := n3_; have GE430 := n4_; clear n0_ n1_ n2_ n3_ n4_; clear hb hbox hg; have hcz28_0 : w27.cell? ⟨gb430, 0, none⟩ = some (.int .i64 0) := (blk_cell BK430.out 0).trans rfl; have hcz28_1 : w27.cell? ⟨gb430, 1, none⟩ = some (.int .i64 0) := (blk_cell BK430.out 1).trans rfl; have hfz28_0 := blk_frozen BK430.out 0; have hfz28_1 := blk_frozen BK430.out 1; obtain ⟨Ao29, co29, eo29⟩ := Kd.R_slice HO427.out; subst eo29; have p431 : 0 ≤ (1 : Int) := (by omega); have q431 : 1 < (t425.length : Int) := of_decide_eq_true x68_14; obtain ⟨ad431, e431, hx431_0, hx431_1, hx431_2, hx431_3, hx431_4⟩ := at_T30 (Kd.R_reads' HO427.out).2.2 1 p431 q431; cases e431; (try simp only [show (1 : Int).toNat = 1 from rfl, Nat.reduceMul, Nat.reduceEqDiff, Go.Addr.add, ↓reduceIte] at hx431_0); (try simp only [show (1 : Int).toNat = 1 from rfl, Nat.reduceMul, Nat.reduceEqDiff, Go.Addr.add, ↓reduceIte] at hx431_1); (try simp only [show (1 : Int).toNat = 1 from rfl, Nat.reduceMul, Nat.reduceEqDiff, Go.Addr.add, ↓reduceIte] at hx431_2); (try simp only [show (1 : Int).toNat = 1 from rfl, Nat.reduceMul, Nat.reduceEqDiff, Go.Addr.add, ↓reduceIte] at hx431_3); (try simp only [show (1 : Int).toNat = 1 from rfl, Nat.reduceMul, Nat.reduceEqDiff, Go.Addr.add, ↓reduceIte] at hx431_4); have qi431 : (1 < t425.length) = True := eq_true (by omega); (try rw [show ((1 : Int)).toNat = 1 from rfl] at hx431_0); (try rw [show 1 * 5 = 5 from rfl] at hx431_0); (try rw [show ((1 : Int)).toNat = 1 from rfl] at hx431_1); (try rw [show 1 * 5 = 5 from rfl] at hx431_1); (try rw [show ((1 : Int)).toNat = 1 from rfl] at hx431_2); (try rw [show 1 * 5 = 5 from rfl] at hx431_2); (try rw [show ((1 : Int)).toNat = 1 from rfl] at hx431_3); (try rw [show 1 * 5 = 5 from rfl] at hx431_3); (try rw [show ((1 : Int)).toNat = 1 from rfl] at hx431_4); (try rw [show 1 * 5 = 5 from rfl] at hx431_4); have hn431_0 : ad431.block ≠ gb430 := Kd.own_blk (Kd.R_ne HO427.out BK430.out (by decide)); have hn431_1 : ad431.block ≠ gb430 := Kd.own_blk (Kd.R_ne HO427.out BK430.out (by decide)); replace hx431_0 := (cell_far (p := ⟨gb430, 0, none⟩) x68_4 (.int .i64 t428)).trans hx431_0; replace hx431_1 := (cell_far (p := ⟨gb430, 0, none⟩) x68_4 (.int .i64 t428)).trans hx431_1; replace hx431_2 := (cell_far (p := ⟨gb430, 0, none⟩) x68_4 (.int .i64 t428)).trans hx431_2; replace hx431_3 := (cell_far (p := ⟨gb430, 0, none⟩) x68_4 (.int .i64 t428)).trans hx431_3; replace hx431_4 := (cell_far (p := ⟨gb430, 0, none⟩) x68_4 (.int .i64 t428)).trans hx431_4; replace hx431_0 := (cell_far (p := ⟨gb430, 1, none⟩) x68_5 (.int .i64 t429)).trans hx431_0; replace hx431_1 := (cell_far (p := ⟨gb430, 1, none⟩) x68_5 (.int .i64 t429)).trans hx431_1; replace hx431_2 := (cell_far (p := ⟨gb430, 1, none⟩) x68_5 (.int .i64 t429)).trans hx431_2; replace hx431_3 := (cell_far (p := ⟨gb430, 1, none⟩) x68_5 (.int .i64 t429)).trans hx431_3; replace hx431_4 := (cell_far (p := ⟨gb430, 1, none⟩) x68_5 (.int .i64 t429)).trans hx431_4; clear hn431_0; clear hn431_1; replace p431 := eq_true p431; replace q431 := eq_true q431))
    go_ret
    exact ⟨x68_13, x68_1⟩
  ·rw [if_neg c3] at H
   exact absurd H (by simp)
 ·rw [if_neg c2] at H
  have c2b0 := beq_eq_false_iff_ne.mpr c2
  have c2b1 := bne_iff_ne.mpr c2
  obtain rfl := Option.some.inj H
  go_enter Tryd.func12, Tryd.ntmps12
  go_wp2_with (first | ((with_reducible refine gate_callee (f := 9) rfl ?_); refine goesL_ (some 4) rfl rfl Tryd.func9 (by kernel_rfl) rfl #[.string (⟨#[108, 101, 116, 32, 120, 61, 49, 46, 46, 50, 32, 35, 32, 121]⟩ : ByteArray)] rfl x68_2 ?_; (with_reducible refine (lex_All.calls (hG := x68_0) (⟨#[108, 101, 116, 32, 120, 61, 49, 46, 46, 50, 32, 35, 32, 121]⟩ : ByteArray) t425 t428 t429 _ A1.out).mono ?_); rintro e w30 ⟨v426, rfl, ho0, hb⟩; refine ⟨_, rfl, ?_⟩; have n0_ := Aside0.mk (Kd.R_lower ho0 (below_size x68_3)); have n1_ := Aside0.mk (below_step x68_3 hb); clear HB; have HO427 := n0_; have HB := n1_; clear n0_ n1_) | ((with_reducible refine gate_dst (N := 2) rfl ?_); refine box_event ?hg (N := 2) ?hd (cs := #[.int .i64 0, .int .i64 0]) (t := 25) ?hr ?_; (case hd => rfl); (case hg => rfl); (case hr => first | (go_simp; done) | (go_simp; rfl)); intro gb430 hg w31 hbox hb; have n0_ := Aside0.mk (Kd.R_below x68_12 hb); have n1_ := Aside0.mk (below_step x68_3 hb); have n2_ := Aside0.mk (hbox); have n3_ := Aside0.mk ((by rw [hg]; exact (below_size x68_3) : w.heap.size ≤ gb430)); have n4_ := Aside0.mk ((by rw [hg]; exact (below_size x68_3) : w.heap.size ≤ gb430)); clear HO427; clear HB; have HO427 := n0_; have HB := n1_; have BK430 := n2_; have GW430 := n3_; have GE430 := n4_; clear n0_ n1_ n2_ n3_ n4_; clear hb hbox hg; have hcz32_0 : w31.cell? ⟨gb430, 0, none⟩ = some (.int .i64 0) := (blk_cell BK430.out 0).trans rfl; have hcz32_1 : w31.cell? ⟨gb430, 1, none⟩ = some (.int .i64 0) := (blk_cell BK430.out 1).trans rfl; have hfz32_0 := blk_frozen BK430.out 0; have hfz32_1 := blk_frozen BK430.out 1; obtain ⟨Ao33, co33, eo33⟩ := Kd.R_slice HO427.out; subst eo33))
  go_ret
  exact ⟨x68_13, x68_1⟩
end Go.Proofs.YtjolkombhdibcaaDoor.Print
end
section
namespace Go.Proofs.YtjolkombhdibcaaDoor.Sp
end Go.Proofs.YtjolkombhdibcaaDoor.Sp
end
section
namespace Go.Proofs.YtjolkombhdibcaaDoor.Sp
open Go.RowKit Go.Proofs.YtjolkombhdibcaaDoorW.PrintWords Go.Proofs.YtjolkombhdibcaaDoorW.PrintMore Go.Proofs.YtjolkombhdibcaaDoor.Given Go.Proofs.YtjolkombhdibcaaDoor.Print
set_option linter.unusedVariables false
set_option linter.unusedSimpArgs false
def awL : List UInt8 := [108, 101, 116, 32, 120, 61, 49, 46, 46, 50, 32, 35, 32, 121]
theorem toks_step {l : List UInt8} {p : Nat} (c : UInt8) (r m : List UInt8) (q : Nat) (hl : l = c :: r) (hb : ¬ blank c) (hc : c ≠ 35) (t : T7) (ht : nextT (c :: r) = t) (he : te t = 0) (hq : tn t = q) (hm : (c :: r).drop q = m) :
    toks l p = (tk t p, 0, 0) :: toks m (p + q) := by
  subst hl ht hm
  exact toks_tok hb hc r p q he hq
theorem aw1 : nextT awL = tok 2 [108, 101, 116] 0 0 3 := by decide +kernel
theorem aw2 : nextT [120, 61, 49, 46, 46, 50, 32, 35, 32, 121] = tok 1 [120] 0 0 1 := by decide +kernel
theorem aw3 : nextT [61, 49, 46, 46, 50, 32, 35, 32, 121] = tok 3 [61] 0 0 1 := by decide +kernel
theorem aw4 : nextT [49, 46, 46, 50, 32, 35, 32, 121] = tok 4 [] 1 0 1 := by decide +kernel
theorem aw5 : nextT [46, 46, 50, 32, 35, 32, 121] = tok 3 [46, 46] 0 0 2 := by decide +kernel
theorem aw6 : nextT [50, 32, 35, 32, 121] = tok 4 [] 2 0 1 := by decide +kernel
theorem aw_toks : toks awL 0 = [(tk (tok 2 [108, 101, 116] 0 0 3) 0, 0, 0), (tk (tok 1 [120] 0 0 1) 4, 0, 0), (tk (tok 3 [61] 0 0 1) 5, 0, 0), (tk (tok 4 [] 1 0 1) 6, 0, 0), (tk (tok 3 [46, 46] 0 0 2) 7, 0, 0), (tk (tok 4 [] 2 0 1) 9, 0, 0), endE 14] := by
  rw [toks_step (l := awL) 108 [101, 116, 32, 120, 61, 49, 46, 46, 50, 32, 35, 32, 121] [32, 120, 61, 49, 46, 46, 50, 32, 35, 32, 121] 3 rfl (by decide) (by decide) _ aw1 rfl rfl rfl]
  rw [toks_blank (c := 32) (.inl rfl)]
  rw [toks_step (l := [120, 61, 49, 46, 46, 50, 32, 35, 32, 121]) 120 [61, 49, 46, 46, 50, 32, 35, 32, 121] [61, 49, 46, 46, 50, 32, 35, 32, 121] 1 rfl (by decide) (by decide) _ aw2 rfl rfl rfl]
  rw [toks_step (l := [61, 49, 46, 46, 50, 32, 35, 32, 121]) 61 [49, 46, 46, 50, 32, 35, 32, 121] [49, 46, 46, 50, 32, 35, 32, 121] 1 rfl (by decide) (by decide) _ aw3 rfl rfl rfl]
  rw [toks_step (l := [49, 46, 46, 50, 32, 35, 32, 121]) 49 [46, 46, 50, 32, 35, 32, 121] [46, 46, 50, 32, 35, 32, 121] 1 rfl (by decide) (by decide) _ aw4 rfl rfl rfl]
  rw [toks_step (l := [46, 46, 50, 32, 35, 32, 121]) 46 [46, 50, 32, 35, 32, 121] [50, 32, 35, 32, 121] 2 rfl (by decide) (by decide) _ aw5 rfl rfl rfl]
  rw [toks_step (l := [50, 32, 35, 32, 121]) 50 [32, 35, 32, 121] [32, 35, 32, 121] 1 rfl (by decide) (by decide) _ aw6 rfl rfl rfl]
  rw [toks_blank (c := 32) (.inl rfl), toks_hash]
  have : Given.runN lineB [32, 121] = 2 := by decide
  rw [this, show ([32, 121] : List UInt8).drop 2 = [] from rfl, toks_nil]
theorem aw_all : allT awL = ([tk (tok 2 [108, 101, 116] 0 0 3) 0, tk (tok 1 [120] 0 0 1) 4, tk (tok 3 [61] 0 0 1) 5, tk (tok 4 [] 1 0 1) 6, tk (tok 3 [46, 46] 0 0 2) 7, tk (tok 4 [] 2 0 1) 9, (endE 14).1], 0, 0) := by
  unfold allT seqT
  rw [if_neg (by decide), aw_toks]
  rfl
theorem awake_f : casketlaw11_awake.f = some true := by
  unfold casketlaw11_awake.f
  have h : lex_All.f (⟨#[108, 101, 116, 32, 120, 61, 49, 46, 46, 50, 32, 35, 32, 121]⟩ : ByteArray) = some (allT awL) := all_f awL (by decide)
  rw [h, aw_all]
  decide +kernel
end Go.Proofs.YtjolkombhdibcaaDoor.Sp
end
section
namespace Go.Proofs.YtjolkombhdibcaaDoor.Two
open Go.RowKit Go.Shelf Go.Proofs.YtjolkombhdibcaaDoorW.PrintWords Go.Proofs.YtjolkombhdibcaaDoorW.PrintMore Go.Proofs.YtjolkombhdibcaaDoorW.PrintLast Go.Proofs.YtjolkombhdibcaaDoor.Given Go.Proofs.YtjolkombhdibcaaDoor.Print Go.Proofs.YtjolkombhdibcaaDoor.Sp
set_option linter.unusedVariables false
set_option linter.unusedSimpArgs false
theorem all_reads (S : ByteArray) (hS : S.size ≤ 1000000) {xs : List S30} {cd ad : Int} (hx : allT S.data.toList = (xs, cd, ad)) (w : World) (hG : Glob w) :
    Calls Tryd.prog 9 #[.string S] w fun e W' => ∃ A c, e = .returned (.tuple #[.slice A xs.length c, .agg #[.int .i64 cd, .int .i64 ad]]) ∧ xs.length ≤ c ∧ Kd.C k30 W' A xs.length xs ∧ Below w.heap.size w W' := by
  refine (all_any S hS w hG).mono ?_
  rintro e w' ⟨v, rfl, hr, hb⟩
  rw [hx] at hr ⊢
  obtain ⟨A, c, rfl, hl, hC⟩ := Kd.R_reads (row_flat hr)
  exact ⟨A, c, rfl, hl, hC, hb⟩
theorem awake_calls (w : World) (hG : Glob w) : Calls Tryd.prog 12 #[] w fun e w' => e = .returned (.bool true) ∧ Below w.heap.size w w' := casketlaw11_awake.calls true w hG awake_f
set_option maxRecDepth 100000 in
set_option maxHeartbeats 4000000 in
theorem two_long (a b : ByteArray) (w : World) (h : 5000 < a.size ∨ 5000 < b.size) (ha : a.size ≤ 140737488351232) (hb : b.size ≤ 140737488351232) :
    Calls Tryd.prog 6 #[.string a, .string b] w fun e w' => e = .returned (.bool true) ∧ Below w.heap.size w w' := by
  by_cases h1 : 5000 < a.size
  · have e1 : decide (5000 < (a.size : Int)) = true := decide_eq_true (by omega)
    have e2 : decide (5000 < a.size) = true := decide_eq_true h1
    clear h
    go_enter Tryd.func6, Tryd.ntmps6
    go_wp2
    repeat (go_quiet (fail); try go_wp2)
    go_ret
    exact ⟨rfl, Below.refl _ _⟩
  · have h2 : 5000 < b.size := h.resolve_left h1
    have e1 : decide (5000 < (a.size : Int)) = false := decide_eq_false (by omega)
    have e2 : decide (5000 < a.size) = false := decide_eq_false h1
    have f1 : decide (5000 < (b.size : Int)) = true := decide_eq_true (by omega)
    have f2 : decide (5000 < b.size) = true := decide_eq_true h2
    clear h h1
    go_enter Tryd.func6, Tryd.ntmps6
    go_wp2
    repeat (go_quiet (fail); try go_wp2)
    go_ret
    exact ⟨rfl, Below.refl _ _⟩
set_option maxRecDepth 100000 in
set_option maxHeartbeats 8000000 in
theorem two_bad (a b : ByteArray) (w : World) (hG : Glob w) (ha : a.size ≤ 5000) (hb : b.size ≤ 5000) {cx fx : Int} {ys zs : List S30} {cy fy cz fz : Int}
    (hx : allT a.data.toList = ([], cx, fx)) (hy : allT b.data.toList = (ys, cy, fy)) (hz : allT (a ++ ⟨#[10]⟩ ++ b).data.toList = (zs, cz, fz)) (hcx : cx ≠ 0) :
    Calls Tryd.prog 6 #[.string a, .string b] w fun e w' => e = .returned (.bool true) ∧ Below w.heap.size w w' := by
  have hu25 := Tryd.underlying25
  have hu30 := Tryd.underlying30
  have hs : (a ++ ⟨#[10]⟩ ++ b : ByteArray).size ≤ 1000000 := by rw [ByteArray.size_append, ByteArray.size_append]; show a.size + 1 + b.size ≤ _; omega
  have C1 := Aside0.mk (fun W (hW : Below w.heap.size w W) => all_reads a (by omega) hx W (hG.at_ hW))
  have C2 := Aside0.mk (fun W (hW : Below w.heap.size w W) => all_reads b (by omega) hy W (hG.at_ hW))
  have C3 := Aside0.mk (fun W (hW : Below w.heap.size w W) => all_reads _ hs hz W (hG.at_ hW))
  have C4 := Aside0.mk (fun W (hW : Below w.heap.size w W) => awake_calls W (hG.at_ hW))
  have e1 : decide (5000 < (a.size : Int)) = false := decide_eq_false (by omega)
  have e2 : decide (5000 < a.size) = false := decide_eq_false (by omega)
  have f1 : decide (5000 < (b.size : Int)) = false := decide_eq_false (by omega)
  have f2 : decide (5000 < b.size) = false := decide_eq_false (by omega)
  have g1 : (cx == 0) = false := beq_eq_false_iff_ne.2 hcx
  have g2 : (cx != 0) = true := bne_iff_ne.2 hcx
  clear hcx hx hy hz hs hG
  go_enter Tryd.func6, Tryd.ntmps6
  go_wp2_with (first | (go_at_call 9; (with_reducible refine (C1.out _ (Below.refl _ _)).mono ?_); rintro e w1 ⟨A1, c1, rfl, hl1, hC1, hb1⟩; have HB1 := Aside0.mk hb1; clear hb1; have HC1 := Aside0.mk hC1; clear hC1 C1) | (go_at_call 9; (with_reducible refine (C2.out _ (below_alloc HB1.out _)).mono ?_); rintro e w2 ⟨A2, c2, rfl, hl2, hC2, hb2⟩; have HB2 := Aside0.mk (below_step (below_alloc HB1.out _) hb2); have HX1 := Aside0.mk (blk_below (blk_new w1 (.cells #[.int .i64 cx, .int .i64 fx] 25)) hb2); clear hb2 hC2 C2) | (go_at_call 9; (with_reducible refine (C3.out _ (below_alloc HB2.out _)).mono ?_); rintro e w3 ⟨A3, c3, rfl, hl3, hC3, hb3⟩; have HB3 := Aside0.mk (below_alloc (below_step (below_alloc HB2.out _) hb3) (.cells #[.int .i64 cz, .int .i64 fz] 25)); have HX3 := Aside0.mk (blk_alloc (blk_below (blk_alloc HX1.out (.cells #[.int .i64 cy, .int .i64 fy] 25)) hb3) (.cells #[.int .i64 cz, .int .i64 fz] 25)); have hx0 := (blk_cell HX3.out 0).trans (show (#[Value.int .i64 cx, Value.int .i64 fx] : Array Value)[0]? = some (.int .i64 cx) from rfl); have hx1 := blk_frozen HX3.out 0; clear hb3 hC3 C3) | (go_at_call 12; (with_reducible refine (C4.out _ HB3.out).mono ?_); rintro e w4 ⟨rfl, hb4⟩; have HB4 := Aside0.mk (below_step HB3.out hb4); clear hb4 C4))
  repeat (go_quiet (fail); try go_wp2_with (go_at_call 12; (with_reducible refine (C4.out _ HB3.out).mono ?_); rintro e w4 ⟨rfl, hb4⟩; have HB4 := Aside0.mk (below_step HB3.out hb4); clear hb4 C4))
  go_ret
  exact ⟨rfl, HB4.out⟩
end Go.Proofs.YtjolkombhdibcaaDoor.Two
end
section
namespace Go.Proofs.YtjolkombhdibcaaDoor.Two
open Go.RowKit Go.Shelf Go.Proofs.YtjolkombhdibcaaDoorW.PrintWords Go.Proofs.YtjolkombhdibcaaDoorW.PrintMore Go.Proofs.YtjolkombhdibcaaDoorW.PrintLast Go.Proofs.YtjolkombhdibcaaDoor.Given Go.Proofs.YtjolkombhdibcaaDoor.Print Go.Proofs.YtjolkombhdibcaaDoor.Sp
attribute [local go_sem high] eqA25 eqA30
set_option linter.unusedVariables false
set_option linter.unusedSimpArgs false
set_option maxRecDepth 100000 in
set_option maxHeartbeats 8000000 in
theorem two_bad2 (a b : ByteArray) (w : World) (hG : Glob w) (ha : a.size ≤ 5000) (hb : b.size ≤ 5000) {xs : List S30} {fx cy fy fz : Int}
    (hx : allT a.data.toList = (xs, 0, fx)) (hy : allT b.data.toList = ([], cy, fy)) (hz : allT (a ++ ⟨#[10]⟩ ++ b).data.toList = ([], cy, fz)) (hcy : cy ≠ 0) (hfz : fz = wrap64 (wrap64 (fy + (a.size : Int)) + 1)) :
    Calls Tryd.prog 6 #[.string a, .string b] w fun e w' => e = .returned (.bool true) ∧ Below w.heap.size w w' := by
  have hu25 := Tryd.underlying25
  have hu30 := Tryd.underlying30
  have hs : (a ++ ⟨#[10]⟩ ++ b : ByteArray).size ≤ 1000000 := by rw [ByteArray.size_append, ByteArray.size_append]; show a.size + 1 + b.size ≤ _; omega
  have C1 := Aside0.mk (fun W (hW : Below w.heap.size w W) => all_reads a (by omega) hx W (hG.at_ hW))
  have C2 := Aside0.mk (fun W (hW : Below w.heap.size w W) => all_reads b (by omega) hy W (hG.at_ hW))
  have C3 := Aside0.mk (fun W (hW : Below w.heap.size w W) => all_reads _ hs hz W (hG.at_ hW))
  have C4 := Aside0.mk (fun W (hW : Below w.heap.size w W) => awake_calls W (hG.at_ hW))
  have e1 : decide (5000 < (a.size : Int)) = false := decide_eq_false (by omega)
  have e2 : decide (5000 < a.size) = false := decide_eq_false (by omega)
  have f1 : decide (5000 < (b.size : Int)) = false := decide_eq_false (by omega)
  have f2 : decide (5000 < b.size) = false := decide_eq_false (by omega)
  have g1 : (cy == 0) = false := beq_eq_false_iff_ne.2 hcy
  have g2 : (cy != 0) = true := bne_iff_ne.2 hcy
  have g3 : (fz == wrap64 (wrap64 (fy + (a.size : Int)) + 1)) = true := beq_iff_eq.2 hfz
  clear hcy hfz hx hy hz hs hG
  go_enter Tryd.func6, Tryd.ntmps6
  go_wp2_with (first | (go_at_call 9; (with_reducible refine (C1.out _ (Below.refl _ _)).mono ?_); rintro e w1 ⟨A1, c1, rfl, hl1, hC1, hb1⟩; have HB1 := Aside0.mk hb1; clear hb1; have HC1 := Aside0.mk hC1; clear hC1 C1) | (go_at_call 9; (with_reducible refine (C2.out _ (below_alloc HB1.out _)).mono ?_); rintro e w2 ⟨A2, c2, rfl, hl2, hC2, hb2⟩; have HB2 := Aside0.mk (below_step (below_alloc HB1.out _) hb2); have HX1 := Aside0.mk (blk_below (blk_new w1 (.cells #[.int .i64 0, .int .i64 fx] 25)) hb2); clear hb2 hC2 C2) | (go_at_call 9; (with_reducible refine (C3.out _ (below_alloc HB2.out _)).mono ?_); rintro e w3 ⟨A3, c3, rfl, hl3, hC3, hb3⟩; have HB3 := Aside0.mk (below_alloc (below_step (below_alloc HB2.out _) hb3) (.cells #[.int .i64 cy, .int .i64 fz] 25)); have HX3 := Aside0.mk (blk_alloc (blk_below (blk_alloc HX1.out (.cells #[.int .i64 cy, .int .i64 fy] 25)) hb3) (.cells #[.int .i64 cy, .int .i64 fz] 25)); have hx0 := (blk_cell HX3.out 0).trans (show (#[Value.int .i64 0, Value.int .i64 fx] : Array Value)[0]? = some (.int .i64 0) from rfl); have hx1 := blk_frozen HX3.out 0; have HX4 := Aside0.mk (blk_alloc (blk_below (blk_new w2 (.cells #[.int .i64 cy, .int .i64 fy] 25)) hb3) (.cells #[.int .i64 cy, .int .i64 fz] 25)); have hy0 := (blk_cell HX4.out 0).trans (show (#[Value.int .i64 cy, Value.int .i64 fy] : Array Value)[0]? = some (.int .i64 cy) from rfl); have hy1 := blk_frozen HX4.out 0; have hy2 := (blk_cell HX4.out 1).trans (show (#[Value.int .i64 cy, Value.int .i64 fy] : Array Value)[1]? = some (.int .i64 fy) from rfl); have hy3 := blk_frozen HX4.out 1; clear hb3 hC3 C3) | (go_at_call 12; (with_reducible refine (C4.out _ HB3.out).mono ?_); rintro e w4 ⟨rfl, hb4⟩; have HB4 := Aside0.mk (below_step HB3.out hb4); clear hb4 C4))
  go_ret
  exact ⟨rfl, HB4.out⟩
end Go.Proofs.YtjolkombhdibcaaDoor.Two
end
section
namespace Go.Proofs.YtjolkombhdibcaaDoor.Two
open Go.RowKit Go.Shelf Go.Proofs.YtjolkombhdibcaaDoorW.PrintWords Go.Proofs.YtjolkombhdibcaaDoorW.PrintMore Go.Proofs.YtjolkombhdibcaaDoorW.PrintLast Go.Proofs.YtjolkombhdibcaaDoor.Given Go.Proofs.YtjolkombhdibcaaDoor.Print Go.Proofs.YtjolkombhdibcaaDoor.Sp
attribute [local go_sem high] eqA25 eqA30
set_option linter.unusedVariables false
set_option linter.unusedSimpArgs false
theorem incN (i : Nat) (h : i ≤ 100000) : wrap64 ((i : Int) + 1) = ((i + 1 : Nat) : Int) := wrapP (a := i) (b := 1) (by omega)
theorem incL (i n : Nat) (h : i ≤ 100000) (c : i + 1 < n) : decide (wrap64 ((i : Int) + 1) < (n : Int)) = true := decide_eq_true (by rw [incN i h]; omega)
theorem incR (i n : Nat) (h : i ≤ 100000) (c : ¬ i + 1 < n) : decide (wrap64 ((i : Int) + 1) < (n : Int)) = false := decide_eq_false (by rw [incN i h]; omega)
theorem wrapL (x y z : Nat) (h : x ≤ 5001) (h' : y ≤ 5001) (hl : z + 1 = x + y) : wrap64 (wrap64 ((x : Int) + (y : Int)) - 1) = (z : Int) := by
  rw [wrapP (by omega), show ((x + y : Nat) : Int) - 1 = ((z : Nat) : Int) + ((0 : Nat) : Int) by omega, wrapP (by omega)]
  rfl
theorem shW (t : S30) (n : Nat) (h0 : 0 ≤ t.f1) (h1 : t.f1 ≤ 5000) (hn : n ≤ 5000) : shT (n + 1) t = ⟨t.f0, wrap64 (t.f1 + ((n : Int) + 1)), t.f2, t.f3, t.f4⟩ := by
  obtain ⟨m, hm⟩ := Int.eq_ofNat_of_zero_le h0
  unfold shT
  rw [hm, show ((n : Int) + 1) = ((n + 1 : Nat) : Int) from rfl, wrapP (by omega)]
  rfl
set_option maxRecDepth 100000 in
set_option maxHeartbeats 8000000 in
theorem two_good (a b : ByteArray) (w : World) (hG : Glob w) (ha : a.size ≤ 5000) (hb : b.size ≤ 5000) {xs ys zs : List S30} {fx fy fz : Int}
    (hx : allT a.data.toList = (xs, 0, fx)) (hy : allT b.data.toList = (ys, 0, fy)) (hz : allT (a ++ ⟨#[10]⟩ ++ b).data.toList = (zs, 0, fz))
    (h1 : 1 ≤ xs.length) (hn : xs.length ≤ 5001) (hm : ys.length ≤ 5001) (hlen : zs.length + 1 = xs.length + ys.length)
    (hp : ∀ i : Nat, i + 1 < xs.length → rd_T30 zs (i : Int) = rd_T30 xs (i : Int))
    (hq : ∀ i : Nat, i < ys.length → rd_T30 zs ((xs.length - 1 + i : Nat) : Int) = shT (a.size + 1) (rd_T30 ys (i : Int)))
    (hat : ∀ i : Nat, i < ys.length → 0 ≤ (rd_T30 ys (i : Int)).f1 ∧ (rd_T30 ys (i : Int)).f1 ≤ 5000) :
    Calls Tryd.prog 6 #[.string a, .string b] w fun e w' => e = .returned (.bool true) ∧ Below w.heap.size w w' := by
  have hu25 := Tryd.underlying25
  have hu30 := Tryd.underlying30
  have hs : (a ++ ⟨#[10]⟩ ++ b : ByteArray).size ≤ 1000000 := by rw [ByteArray.size_append, ByteArray.size_append]; show a.size + 1 + b.size ≤ _; omega
  have C1 := Aside0.mk (fun W (hW : Below w.heap.size w W) => all_reads a (by omega) hx W (hG.at_ hW))
  have C2 := Aside0.mk (fun W (hW : Below w.heap.size w W) => all_reads b (by omega) hy W (hG.at_ hW))
  have C3 := Aside0.mk (fun W (hW : Below w.heap.size w W) => all_reads _ hs hz W (hG.at_ hW))
  have C4 := Aside0.mk (fun W (hW : Below w.heap.size w W) => awake_calls W (hG.at_ hW))
  have e1 : decide (5000 < (a.size : Int)) = false := decide_eq_false (by omega)
  have e2 : decide (5000 < a.size) = false := decide_eq_false (by omega)
  have f1 : decide (5000 < (b.size : Int)) = false := decide_eq_false (by omega)
  have f2 : decide (5000 < b.size) = false := decide_eq_false (by omega)
  have HN := Aside0.mk (And.intro h1 (And.intro hn (And.intro hm hlen)))
  have HA := Aside0.mk ha
  have HP := Aside0.mk hp
  have HQ := Aside0.mk hq
  have HT := Aside0.mk hat
  have l1 := wrapL xs.length ys.length zs.length hn hm hlen
  clear hx hy hz hs hG h1 hn hm hlen hp hq hat
  go_enter Tryd.func6, Tryd.ntmps6
  go_wp2_with (first | (go_at_call 9; (with_reducible refine (C1.out _ (Below.refl _ _)).mono ?_); rintro e w1 ⟨A1, c1, rfl, hl1, hC1, hb1⟩; have HB1 := Aside0.mk hb1; clear hb1; have HC1 := Aside0.mk hC1; clear hC1 C1) | (go_at_call 9; (with_reducible refine (C2.out _ (below_alloc HB1.out _)).mono ?_); rintro e w2 ⟨A2, c2, rfl, hl2, hC2, hb2⟩; have HB2 := Aside0.mk (below_step (below_alloc HB1.out _) hb2); have HX1 := Aside0.mk (blk_below (blk_new w1 (.cells #[.int .i64 0, .int .i64 fx] 25)) hb2); have HD1 := Aside0.mk (Kd.C_below (Kd.C_alloc HC1.out (.cells #[.int .i64 0, .int .i64 fx] 25)) hb2); have HC2 := Aside0.mk hC2; clear hb2 hC2 C2 HC1) | (go_at_call 9; (with_reducible refine (C3.out _ (below_alloc HB2.out _)).mono ?_); rintro e w3 ⟨A3, c3, rfl, hl3, hC3, hb3⟩; have HB3 := Aside0.mk (below_alloc (below_step (below_alloc HB2.out _) hb3) (.cells #[.int .i64 0, .int .i64 fz] 25)); have HX3 := Aside0.mk (blk_alloc (blk_below (blk_alloc HX1.out (.cells #[.int .i64 0, .int .i64 fy] 25)) hb3) (.cells #[.int .i64 0, .int .i64 fz] 25)); have hx0 := (blk_cell HX3.out 0).trans (show (#[Value.int .i64 0, Value.int .i64 fx] : Array Value)[0]? = some (.int .i64 0) from rfl); have hx1 := blk_frozen HX3.out 0; have HX4 := Aside0.mk (blk_alloc (blk_below (blk_new w2 (.cells #[.int .i64 0, .int .i64 fy] 25)) hb3) (.cells #[.int .i64 0, .int .i64 fz] 25)); have hy0 := (blk_cell HX4.out 0).trans (show (#[Value.int .i64 0, Value.int .i64 fy] : Array Value)[0]? = some (.int .i64 0) from rfl); have hy1 := blk_frozen HX4.out 0; have HD3 := Aside0.mk (Kd.C_alloc (Kd.C_below (Kd.C_alloc HD1.out (.cells #[.int .i64 0, .int .i64 fy] 25)) hb3) (.cells #[.int .i64 0, .int .i64 fz] 25)); have HD4 := Aside0.mk (Kd.C_alloc (Kd.C_below (Kd.C_alloc HC2.out (.cells #[.int .i64 0, .int .i64 fy] 25)) hb3) (.cells #[.int .i64 0, .int .i64 fz] 25)); have HD5 := Aside0.mk (Kd.C_alloc hC3 (.cells #[.int .i64 0, .int .i64 fz] 25)); clear HC2 HD1 HX1 HB1 HB2; clear hb3 hC3 C3))
  repeat (go_quiet (fail); try go_wp2)
  go_loopg [11] xs.length (fun kq v11 w' => ∃ i : Nat, v11 = .int .i64 (i : Int) ∧ Aside0 (i + kq = xs.length) ∧ Aside0 (1 ≤ kq) ∧ Aside0 (k30.C w' A1 xs.length xs) ∧ Aside0 (k30.C w' A2 ys.length ys) ∧ Aside0 (k30.C w' A3 zs.length zs) ∧ Aside0 (Below w.heap.size w w'))
  case atStart => exact ⟨0, rfl, ⟨Nat.zero_add _⟩, ⟨HN.out.1⟩, HD3, HD4, HD5, HB3⟩
  case round =>
    obtain ⟨i, rfl, HI, HK, HD3, HD4, HD5, HB3⟩ := hrel
    clear l1
    cases gk with
    | zero => exact absurd HK.out (by omega)
    | succ k4 =>
      by_cases c : i + 1 < xs.length
      · have p1 : 0 ≤ (i : Int) := Int.natCast_nonneg i
        have p2 : (i : Int) < (xs.length : Int) := by omega
        have p3 : (i : Int) < (zs.length : Int) := by have := HN.out; omega
        have hi : i ≤ 100000 := by have := HN.out; have := HI.out; omega
        obtain ⟨ad5, e5, hz0, hz1, hz2, hz3, hz4⟩ := at_T30 HD5.out (i : Int) p1 p3
        rw [HP.out i c] at hz0 hz1 hz2 hz3 hz4
        cases e5
        obtain ⟨ad3, e3, hv0, hv1, hv2, hv3, hv4⟩ := at_T30 HD3.out (i : Int) p1 p2
        cases e3
        simp only [Int.toNat_natCast] at hz0 hz1 hz2 hz3 hz4 hv0 hv1 hv2 hv3 hv4
        replace p1 := eq_true p1
        replace p2 := eq_true p2
        replace p3 := eq_true p3
        have c0 := incL i xs.length hi c
        go_wp2
        repeat (go_quiet (fail); try go_wp2)
        go_roundg k4
        case measure => omega
        case rel => exact ⟨i + 1, rfl, ⟨by have := HI.out; omega⟩, ⟨by have := HI.out; omega⟩, ⟨Kd.C_drewN HD3.out _⟩, ⟨Kd.C_drewN HD4.out _⟩, ⟨Kd.C_drewN HD5.out _⟩, ⟨pw_below_drewN HB3.out _⟩⟩
      · have hi : i ≤ 100000 := by have := HN.out; have := HI.out; omega
        have c0 := incR i xs.length hi c
        go_wp2
        repeat (go_quiet (fail); try go_wp2)
        clear c0
        go_loopg [12] ys.length (fun kq v12 w' => ∃ j : Nat, v12 = .int .i64 (j : Int) ∧ Aside0 (j + kq = ys.length) ∧ Aside0 (k30.C w' A2 ys.length ys) ∧ Aside0 (k30.C w' A3 zs.length zs) ∧ Aside0 (Below w.heap.size w w'))
        case atStart => exact ⟨0, rfl, ⟨Nat.zero_add _⟩, HD4, HD5, HB3⟩
        case round =>
          clear HD3 HD4 HD5 HB3
          obtain ⟨j, rfl, HJ, HD4, HD5, HB3⟩ := hrel
          cases gk with
          | zero =>
            have d1 : decide ((j : Int) < (ys.length : Int)) = false := decide_eq_false (by have := HJ.out; omega)
            have d2 : decide (j < ys.length) = false := decide_eq_false (by have := HJ.out; omega)
            go_wp2_with (go_at_call 12; (with_reducible refine (C4.out _ HB3.out).mono ?_); rintro e w4 ⟨rfl, hb4⟩; have HB4 := Aside0.mk (below_step HB3.out hb4); clear hb4 C4)
            repeat (go_quiet (fail); try go_wp2_with (go_at_call 12; (with_reducible refine (C4.out _ HB3.out).mono ?_); rintro e w4 ⟨rfl, hb4⟩; have HB4 := Aside0.mk (below_step HB3.out hb4); clear hb4 C4))
            go_ret
            exact ⟨rfl, HB4.out⟩
          | succ k5 =>
            have hj : j < ys.length := by have := HJ.out; omega
            have d1 : decide ((j : Int) < (ys.length : Int)) = true := decide_eq_true (by omega)
            have p1 : 0 ≤ (j : Int) := Int.natCast_nonneg j
            have p2 : (j : Int) < (ys.length : Int) := by omega
            obtain ⟨n1, n2, n3, n4⟩ := HN.out
            have p3 : 0 ≤ (xs.length : Int) - 1 + (j : Int) := by omega
            have p4 : (xs.length : Int) - 1 + (j : Int) < (zs.length : Int) := by omega
            have hr : rd_T30 zs ((xs.length - 1 + j : Nat) : Int) = ⟨(rd_T30 ys (j : Int)).f0, wrap64 ((rd_T30 ys (j : Int)).f1 + ((a.size : Int) + 1)), (rd_T30 ys (j : Int)).f2, (rd_T30 ys (j : Int)).f3, (rd_T30 ys (j : Int)).f4⟩ := by
              rw [HQ.out j hj]
              exact shW _ _ (HT.out j hj).1 (HT.out j hj).2 HA.out
            have hx3 : (0 : Int) ≤ ((xs.length - 1 + j : Nat) : Int) := Int.natCast_nonneg _
            have hx4 : ((xs.length - 1 + j : Nat) : Int) < (zs.length : Int) := by omega
            obtain ⟨ad4, e4, hv0, hv1, hv2, hv3, hv4⟩ := at_T30 HD4.out (j : Int) p1 p2
            cases e4
            simp only [Int.toNat_natCast] at hv0 hv1 hv2 hv3 hv4
            obtain ⟨ad5, e5, hz0, hz1, hz2, hz3, hz4⟩ := at_T30 (Kd.C_alloc HD5.out (.cells #[.int .i64 (rd_T30 ys (j : Int)).f0, .int .i64 (wrap64 ((rd_T30 ys (j : Int)).f1 + ((a.size : Int) + 1))), .string (rd_T30 ys (j : Int)).f2, .int .i64 (rd_T30 ys (j : Int)).f3, .int .u64 (rd_T30 ys (j : Int)).f4] 30)) ((xs.length - 1 + j : Nat) : Int) hx3 hx4
            rw [hr] at hz0 hz1 hz2 hz3 hz4
            simp only [Int.toNat_natCast] at hz0 hz1 hz2 hz3 hz4
            cases e5
            clear hr hx3 hx4
            replace p1 := eq_true p1
            replace p2 := eq_true p2
            replace p3 := eq_true p3
            replace p4 := eq_true p4
            go_wp2
            repeat (go_quiet (fail); try go_wp2)
            have T1 := blk_new wr (.cells #[.int .i64 (rd_T30 ys (j : Int)).f0, .int .i64 (wrap64 ((rd_T30 ys (j : Int)).f1 + ((a.size : Int) + 1))), .string (rd_T30 ys (j : Int)).f2, .int .i64 (rd_T30 ys (j : Int)).f3, .int .u64 (rd_T30 ys (j : Int)).f4] 30)
            have ht0 := (blk_cell T1 0).trans rfl
            have ht1 := (blk_cell T1 1).trans rfl
            have ht2 := (blk_cell T1 2).trans rfl
            have ht3 := (blk_cell T1 3).trans rfl
            have ht4 := (blk_cell T1 4).trans rfl
            have HE4 := Kd.C_alloc HD4.out (.cells #[.int .i64 (rd_T30 ys (j : Int)).f0, .int .i64 (wrap64 ((rd_T30 ys (j : Int)).f1 + ((a.size : Int) + 1))), .string (rd_T30 ys (j : Int)).f2, .int .i64 (rd_T30 ys (j : Int)).f3, .int .u64 (rd_T30 ys (j : Int)).f4] 30)
            have HE5 := Kd.C_alloc HD5.out (.cells #[.int .i64 (rd_T30 ys (j : Int)).f0, .int .i64 (wrap64 ((rd_T30 ys (j : Int)).f1 + ((a.size : Int) + 1))), .string (rd_T30 ys (j : Int)).f2, .int .i64 (rd_T30 ys (j : Int)).f3, .int .u64 (rd_T30 ys (j : Int)).f4] 30)
            have HEB := below_alloc HB3.out (.cells #[.int .i64 (rd_T30 ys (j : Int)).f0, .int .i64 (wrap64 ((rd_T30 ys (j : Int)).f1 + ((a.size : Int) + 1))), .string (rd_T30 ys (j : Int)).f2, .int .i64 (rd_T30 ys (j : Int)).f3, .int .u64 (rd_T30 ys (j : Int)).f4] 30)
            clear T1 HD4 HD5 HB3
            generalize wr.alloc (.cells #[.int .i64 (rd_T30 ys (j : Int)).f0, .int .i64 (wrap64 ((rd_T30 ys (j : Int)).f1 + ((a.size : Int) + 1))), .string (rd_T30 ys (j : Int)).f2, .int .i64 (rd_T30 ys (j : Int)).f3, .int .u64 (rd_T30 ys (j : Int)).f4] 30) = W at ht0 ht1 ht2 ht3 ht4 hz0 hz1 hz2 hz3 hz4 HE4 HE5 HEB ⊢
            have HD4 := Aside0.mk HE4
            have HD5 := Aside0.mk HE5
            have HB3 := Aside0.mk HEB
            clear HE4 HE5 HEB
            go_wp2
            repeat (go_quiet (fail); try go_wp2)
            go_roundg k5
            case measure => omega
            case rel => exact ⟨j + 1, rfl, ⟨by have := HJ.out; omega⟩, ⟨Kd.C_drewN HD4.out _⟩, ⟨Kd.C_drewN HD5.out _⟩, ⟨pw_below_drewN HB3.out _⟩⟩
end Go.Proofs.YtjolkombhdibcaaDoor.Two
end
section
namespace Go.Proofs.YtjolkombhdibcaaDoor.Print
open Go.RowKit Go.Shelf Go.Proofs.YtjolkombhdibcaaDoorW.PrintWords Go.Proofs.YtjolkombhdibcaaDoorW.PrintMore Go.Proofs.YtjolkombhdibcaaDoorW.PrintLast Go.Proofs.YtjolkombhdibcaaDoor.Given Go.Proofs.YtjolkombhdibcaaDoor.Sp Go.Proofs.YtjolkombhdibcaaDoor.Two
set_option linter.unusedVariables false
theorem allT_len2 (l : List UInt8) : (allT l).1.length ≤ l.length + 1 := by
  have h : ∀ (ys : List E) (acc : List S30), (col acc ys).1.length ≤ acc.length + ys.length := by
    intro ys
    induction ys with
    | nil => intro acc; simp [col]
    | cons y r ih =>
      intro acc
      obtain ⟨t, c, a⟩ := y
      rw [col]
      split
      · have := ih (acc ++ [t]); simp at this ⊢; omega
      · simp
  have h1 := h (seqT l) []
  have h2 := seq_le l
  unfold allT
  simp at h1
  omega
theorem two_left (xs ys : List S30) (i : Nat) (h : i + 1 < xs.length) : rd_T30 (xs.dropLast ++ ys) (i : Int) = rd_T30 xs (i : Int) := by
  unfold rd_T30
  rw [Int.toNat_natCast, List.getD_eq_getElem?_getD, List.getD_eq_getElem?_getD, List.getElem?_append_left (by rw [List.length_dropLast]; omega), List.getElem?_dropLast, if_pos (by omega)]
theorem two_right (xs ys : List S30) (f : S30 → S30) (j : Nat) (h : j < ys.length) : rd_T30 (xs.dropLast ++ ys.map f) ((xs.length - 1 + j : Nat) : Int) = f (rd_T30 ys (j : Int)) := by
  unfold rd_T30
  rw [Int.toNat_natCast, Int.toNat_natCast, List.getD_eq_getElem?_getD, List.getD_eq_getElem?_getD, List.getElem?_append_right (by rw [List.length_dropLast]; omega), List.length_dropLast, show xs.length - 1 + j - (xs.length - 1) = j by omega, List.getElem?_map, List.getElem?_eq_getElem h]
  rfl
theorem two_mem (ys : List S30) (j : Nat) (h : j < ys.length) : rd_T30 ys (j : Int) ∈ ys := by
  unfold rd_T30
  rw [Int.toNat_natCast, List.getD_eq_getElem?_getD, List.getElem?_eq_getElem h]
  exact List.getElem_mem h
theorem two_wrap (f : Int) (n : Nat) (h0 : 0 ≤ f) (h1 : f ≤ 5000) (hn : n ≤ 5000) : f + ((n + 1 : Nat) : Int) = wrap64 (wrap64 (f + (n : Int)) + 1) := by
  obtain ⟨m, hm⟩ := Int.eq_ofNat_of_zero_le h0
  rw [hm, wrapP (by omega), incN _ (by omega)]
  push_cast
  omega
theorem casketlaw11_LexTwo.holds (a b : ByteArray) (w : World) (hG : Glob w) (ha : a.size ≤ 140737488351232) (hb : b.size ≤ 140737488351232) :
    Calls Tryd.prog 6 #[.string a, .string b] w fun e w' => e = .returned (.bool true) ∧ Below w.heap.size w w' := by
  by_cases h : 5000 < a.size ∨ 5000 < b.size
  · exact two_long a b w h ha hb
  · have ha5 : a.size ≤ 5000 := by omega
    have hb5 : b.size ≤ 5000 := by omega
    have la : a.data.toList.length ≤ 5000 := ha5
    have lb : b.data.toList.length ≤ 5000 := hb5
    have hz : (a ++ ⟨#[10]⟩ ++ b : ByteArray).data.toList = a.data.toList ++ 10 :: b.data.toList := by simp
    obtain ⟨t1, t2, t3⟩ := two_all a.data.toList b.data.toList la lb
    have t1b := (two_all b.data.toList a.data.toList lb la).1
    obtain ⟨u1, u2, u3⟩ := all_at b.data.toList (by omega)
    have n1 := allT_len2 a.data.toList
    have n2 := allT_len2 b.data.toList
    rcases hx : allT a.data.toList with ⟨xs, cx, fx⟩
    rcases hy : allT b.data.toList with ⟨ys, cy, fy⟩
    rw [hx] at t1 t2 t3 n1
    rw [hy] at t2 t3 t1b u1 u2 u3 n2
    dsimp only at t1 t2 t3 t1b u1 u2 u3 n1 n2
    rw [← hz] at t2 t3
    by_cases c1 : cx = 0
    · by_cases c2 : cy = 0
      · subst c1 c2
        obtain ⟨t4, t5⟩ := t3 rfl rfl
        refine two_good a b w hG ha5 hb5 hx hy t4 t5 (by omega) (by omega) ?_ (fun i hi => two_left xs _ i hi) (fun i hi => two_right xs ys _ i hi) (fun i hi => ?_)
        · rw [List.length_append, List.length_dropLast, List.length_map]; omega
        · have := u1 _ (two_mem ys i hi)
          exact ⟨this.1, Int.le_trans this.2 (by omega)⟩
      · subst c1
        have e2 := t1b c2
        subst e2
        exact two_bad2 a b w hG ha5 hb5 hx hy (t2 rfl c2) c2 (two_wrap fy a.size u2 (by omega) ha5)
    · have e1 := t1 c1
      subst e1
      rcases hq : allT (a ++ ⟨#[10]⟩ ++ b : ByteArray).data.toList with ⟨zs, cz, fz⟩
      exact two_bad a b w hG ha5 hb5 hx hy hq c1
def casketlaw11_LexTwo.Pure : Prop := True
theorem casketlaw11_LexTwo.walk (P : casketlaw11_LexTwo.Pure) (a0 a1 : ByteArray) (w : World) (hG : Glob w) (w0 : a0.size ≤ 140737488351232) (w1 : a1.size ≤ 140737488351232) :
    Calls Tryd.prog 6 #[.string a0, .string a1] w fun e w' => e = .returned (.bool true) ∧ Below w.heap.size w w' := casketlaw11_LexTwo.holds a0 a1 w hG w0 w1
end Go.Proofs.YtjolkombhdibcaaDoor.Print
end
section
namespace Go.Proofs.YtjolkombhdibcaaDoor.Pure
theorem LexTwo : Print.casketlaw11_LexTwo.Pure := trivial
end Go.Proofs.YtjolkombhdibcaaDoor.Pure
namespace Go.Proofs.YtjolkombhdibcaaDoor.lexTwo
open Go.ChangeShapes Go.WideShapes Go.ChangeAt Go.RowKit Go.Joins
open Go.ChangeMaps (open_string shut_string)
set_option linter.unusedVariables false
set_option maxRecDepth 100000 in
theorem lifted (os : Os) (started : os.Started) (H : Type) (enc : TypeId × Value → H) :
    ReturnsInHanded {} Tryd.checked os 6 .any (fun w args => (Rows.lexTwoSpec.pre enc Tryd.prog Tryd.f6 [] false w args ∧ laidMetH Tryd.prog Laid.laid w) ∧ sizedMet enc Tryd.prog Tryd.f6 (OpenSpec.ofChange Rows.lexTwoSpec) false w args) (Rows.lexTwoSpec.post enc Tryd.prog Tryd.f6 false true false false) := by
  refine returnsInHanded_of_change_and (C := Tryd.checked) (X := fun w _ => laidMetH Tryd.prog Laid.laid w) (fun _ _ _ hh h => h.of_heap hh) Laid.own started (by kernel_rfl) Tryd.func6
    (ChangeSpec.witness_shaped (enc := enc) (C := Tryd.checked) (os := os) (X := fun w _ => laidMetH Tryd.prog Laid.laid w) false (World.doorLaid Tryd.prog 62 os) #[.string ByteArray.empty, .string ByteArray.empty] 8 rfl (World.shaped_of_RefB (by kernel_rfl) (by kernel_rfl)) (by kernel_rfl) (by kernel_rfl) (by kernel_rfl) (Laid.door_met os _)) ?_
  intro W base args ds gs before hval0 hW hcnd hsz0 hL _
  have hsz : (DataW.weightsEach Tryd.prog (Tryd.f6.params.toList ++ Rows.lexTwoSpec.plain.varTypes Tryd.prog) (ds ++ gs)).all (· ≤ reachBytes) = true := hsz0
  have hval : ∀ (j : Nat) t v, Tryd.f6.params[j]? = some t → args[j]? = some v → Value.okWide Tryd.prog W .any base t v := hval0
  have hW' := hW
  obtain ⟨p, q, hA0, hV, rfl, hfz, hnd⟩ := hW
  have hA : DataW.TrodAll enc Tryd.prog W 0 (fun _ => true) true Tryd.f6.params.toList args.toList ds p := hA0
  rw [Tryd.params6] at hA hval hsz
  obtain ⟨v0, vs0, d0, ds0, p0, q0, hargs, rfl, rfl, h0, r0⟩ := trodAll_cons hA
  obtain ⟨v1, vs1, d1, ds1, p1, q1, rfl, rfl, rfl, h1, r1⟩ := trodAll_cons r0
  obtain ⟨rfl, rfl, rfl⟩ := trodAll_nil r1
  obtain rfl : args = #[v0, v1] := by cases args; simp_all
  obtain ⟨rfl, rfl⟩ := trodVars_none hV
  have hG : Given.Glob W := Laid.of_laid hL
  obtain ⟨a0, rfl, rfl, rfl, y0⟩ := open_string Tryd.underlying9 (hval 0 9 v0 rfl rfl) h0
  have w0 : a0.size ≤ 140737488351232 := by
    have z := sized_string hsz (j := 0) (t := 9) rfl rfl
    rw [Array.length_toList] at z
    exact z
  obtain ⟨a1, rfl, rfl, rfl, y1⟩ := open_string Tryd.underlying9 (hval 1 9 v1 rfl rfl) h1
  have w1 : a1.size ≤ 140737488351232 := by
    have z := sized_string hsz (j := 1) (t := 9) rfl rfl
    rw [Array.length_toList] at z
    exact z
  clear hA0 hval0 hsz0 hsz
  refine (Print.casketlaw11_LexTwo.walk Pure.LexTwo a0 a1 W hG w0 w1).mono fun e W' ⟨he, bel⟩ => ?_
  subst he
  exact ⟨_, rfl, _, _, _, [], _, [], hW', trodAll_mk1 (shut_bool Tryd.underlying4 _), (trodAll_cons_mk (shut_string Tryd.underlying9 y0) (trodAll_cons_mk (shut_string Tryd.underlying9 y1) trodAll_mk0)), rfl, bel.frame _, fun h => by cases h⟩
theorem over : Rows.lexTwoRow.holds Tryd.pinned (OpenSpec.ofChange Rows.lexTwoSpec) :=
  OpenClaim.holds_of_wide 6 Tryd.f6 rfl rfl rfl rfl rfl rfl rfl ⟨rfl, rfl, rfl, rfl, rfl⟩ rfl rfl rfl rfl rfl (by kernel_rfl) Tryd.func6 (by kernel_rfl)
    (of_decide_eq_true (by kernel_rfl)) (by unfold Func.isWrapper; first | (rw [if_pos (by decide +kernel)]; kernel_rfl) | (rw [if_neg (by decide +kernel)]; exact ⟨rfl, rfl⟩))
    (fun os started H enc _ => lifted os started H enc)
theorem card_holds : Rows.LexTwoCardSaid :=
  Claim7.holds_tied_plain_at .later [] [.data, .data, .data, .sentinel, .sentinel] true (true, "431a033b8f36b9d9c52e85b2436dbd75d9d44333d6a5eb7a63f0f069f0875b74") true
    over (fun _ h => by cases h) (by kernel_rfl) (fun _ h => by cases h) lexTwo_row_tie rfl ⟨rfl, rfl⟩ (by kernel_rfl) rfl
    (fun f fn hf hfn => by
      obtain rfl : f = 6 := Option.some.inj ((show Tryd.prog.funcNamed "casket/casketlaw11.LexTwo" = some 6 by kernel_rfl).symm.trans hf) |>.symm
      obtain rfl : fn = Tryd.f6 := (Option.some.inj (Tryd.func6.symm.trans hfn)).symm
      exact ⟨by kernel_rfl, fun j t ht => by
        rw [Tryd.params6] at ht
        have hm : t ∈ [9, 9] := by simpa using Array.mem_of_getElem? ht
        have hall : ([9, 9].all fun u => !Tryd.prog.wantsStandIn u) = true := by kernel_rfl
        exact (show Tryd.prog.wantsStandIn t = false by simpa using List.all_eq_true.1 hall t hm)⟩)
    (by kernel_rfl)
#print axioms card_holds
end Go.Proofs.YtjolkombhdibcaaDoor.lexTwo
namespace Go.Proofs.YtjolkombhdibcaaDoor
theorem lexTwo_card : Rows.LexTwoCardSaid := lexTwo.card_holds
end Go.Proofs.YtjolkombhdibcaaDoor
end
