/- LexNumbers: the row, and the tied card: for every input the law answers true; the arguments read behind the call as before. The listed variables of Go's library are tied to the program's text (in a pruned copy of the project). -/
/- Packed by a program of this session (wip/tools/pack.py): the declarations of its texts that this claim needs. Not trusted: Lean checks it. -/
import Derived.Test.YtjolkombhdibcaaDoorNumD
import Derived.Test.YtjolkombhdibcaaDoorCards
import Derived.Test.YtjolkombhdibcaaDoorTie
import Derived.ChangeOld
import Derived.SizedLaws
import Derived.SevenTiedAt
import Derived.Lib.SmallJoins
import Derived.Deep.Strs
import Derived.Test.YtjolkombhdibcaaDoorChecked
section
namespace Go.Proofs.YtjolkombhdibcaaDoor.Print
open Go.RowKit Go.Proofs.YtjolkombhdibcaaDoor.Given Go.Proofs.YtjolkombhdibcaaDoorW.PrintWords Go.Proofs.YtjolkombhdibcaaDoorW.PrintLast Go.Proofs.YtjolkombhdibcaaDoorW.PrintMore
attribute [local go_sem] max2_int min2_int max_two min_two max_three min_three max_four min_four
set_option linter.unusedVariables false
set_option linter.unusedSimpArgs false
attribute [local go_sem high] eqA25 eqA30
def casketlaw11_awake.f  : Option (Bool) := (lex_All.f (⟨#[108, 101, 116, 32, 120, 61, 49, 46, 46, 50, 32, 35, 32, 121]⟩ : ByteArray)).bind fun bt425 => (if (bt425.1.length : Int) = 7 then (if 1 < (bt425.1.length : Int) then (if (((rd_T30 bt425.1 1).f0) == 1 && (((rd_T30 bt425.1 1).f1) == 4 && ((((rd_T30 bt425.1 1).f2).toList) == ([120] : List UInt8) && (((rd_T30 bt425.1 1).f3) == 0 && (((rd_T30 bt425.1 1).f4) == 0))))) = true then (if 4 < (bt425.1.length : Int) then (if (((rd_T30 bt425.1 4).f0) == 3 && (((rd_T30 bt425.1 4).f1) == 7 && ((((rd_T30 bt425.1 4).f2).toList) == ([46, 46] : List UInt8) && (((rd_T30 bt425.1 4).f3) == 0 && (((rd_T30 bt425.1 4).f4) == 0))))) = true then (if 6 < (bt425.1.length : Int) then (if ((rd_T30 bt425.1 6).f0) = 7 then (if ((rd_T30 bt425.1 6).f1) = 14 then (some (bt425.2.1 == 0 && (bt425.2.2 == 0))) else (some false)) else (some false)) else (none)) else (some false)) else (none)) else (some false)) else (none)) else (some false))
set_option maxHeartbeats 8000000 in
set_option maxRecDepth 100000 in
theorem casketlaw11_awake.calls  (r : Bool) (w : World) (hG : Glob w) (h : casketlaw11_awake.f  = some r) :
  Calls Tryd.prog 12 #[] w fun e w' => e = .returned (.bool r) ∧ Below w.heap.size w w' := by
 have HG0 := Aside0.mk hG
 clear hG
 have hu25 := Tryd.underlying25
 have hu30 := Tryd.underlying30
 have HB := Aside0.mk (Below.refl w.heap.size w)
 have H : ((lex_All.f (⟨#[108, 101, 116, 32, 120, 61, 49, 46, 46, 50, 32, 35, 32, 121]⟩ : ByteArray)).bind fun bt425 => (if (bt425.1.length : Int) = 7 then (if 1 < (bt425.1.length : Int) then (if (((rd_T30 bt425.1 1).f0) == 1 && (((rd_T30 bt425.1 1).f1) == 4 && ((((rd_T30 bt425.1 1).f2).toList) == ([120] : List UInt8) && (((rd_T30 bt425.1 1).f3) == 0 && (((rd_T30 bt425.1 1).f4) == 0))))) = true then (if 4 < (bt425.1.length : Int) then (if (((rd_T30 bt425.1 4).f0) == 3 && (((rd_T30 bt425.1 4).f1) == 7 && ((((rd_T30 bt425.1 4).f2).toList) == ([46, 46] : List UInt8) && (((rd_T30 bt425.1 4).f3) == 0 && (((rd_T30 bt425.1 4).f4) == 0))))) = true then (if 6 < (bt425.1.length : Int) then (if ((rd_T30 bt425.1 6).f0) = 7 then (if ((rd_T30 bt425.1 6).f1) = 14 then (some (bt425.2.1 == 0 && (bt425.2.2 == 0))) else (some false)) else (some false)) else (none)) else (some false)) else (none)) else (some false)) else (none)) else (some false))) = some r := h
 clear h
 replace H := Option.bind_eq_some_iff.mp H
 obtain ⟨⟨t425, t428, t429⟩, A10, H⟩ := H
 replace H : (if (t425.length : Int) = 7 then (if 1 < (t425.length : Int) then (if (((rd_T30 t425 1).f0) == 1 && (((rd_T30 t425 1).f1) == 4 && ((((rd_T30 t425 1).f2).toList) == ([120] : List UInt8) && (((rd_T30 t425 1).f3) == 0 && (((rd_T30 t425 1).f4) == 0))))) = true then (if 4 < (t425.length : Int) then (if (((rd_T30 t425 4).f0) == 3 && (((rd_T30 t425 4).f1) == 7 && ((((rd_T30 t425 4).f2).toList) == ([46, 46] : List UInt8) && (((rd_T30 t425 4).f3) == 0 && (((rd_T30 t425 4).f4) == 0))))) = true then (if 6 < (t425.length : Int) then (if ((rd_T30 t425 6).f0) = 7 then (if ((rd_T30 t425 6).f1) = 14 then (some (t428 == 0 && (t429 == 0))) else (some false)) else (some false)) else (none)) else (some false)) else (none)) else (some false)) else (none)) else (some false)) = some r := H
 have A1 := Aside0.mk A10
 clear A10
 by_cases c2 : (t425.length : Int) = 7
 ·rw [if_pos c2] at H
  have c2b0 : ((t425.length : Int) == 7) = true := beq_iff_eq.mpr c2
  have c2b1 : ((t425.length : Int) != 7) = false := bne_eq_false_iff_eq.mpr c2
  clear c2
  by_cases c3 : 1 < (t425.length : Int)
  ·rw [if_pos c3] at H
   have c3b0 : decide (1 < (t425.length : Int)) = true := decide_eq_true c3
   have c3b1 : decide (1 < t425.length) = true := decide_eq_true (by omega)
   clear c3
   by_cases c4 : (((rd_T30 t425 1).f0) == 1 && (((rd_T30 t425 1).f1) == 4 && ((((rd_T30 t425 1).f2).toList) == ([120] : List UInt8) && (((rd_T30 t425 1).f3) == 0 && (((rd_T30 t425 1).f4) == 0))))) = true
   ·rw [if_pos c4] at H
    have c4b0 : (((rd_T30 t425 1).f0) == 1 && (((rd_T30 t425 1).f1) == 4 && ((((rd_T30 t425 1).f2).toList) == ([120] : List UInt8) && (((rd_T30 t425 1).f3) == 0 && (((rd_T30 t425 1).f4) == 0))))) = true := c4
    (try (have c4b1 : decide (((rd_T30 t425 1).f0) = 1 && (((rd_T30 t425 1).f1) == 4 && ((((rd_T30 t425 1).f2).toList) == ([120] : List UInt8) && (((rd_T30 t425 1).f3) == 0 && (((rd_T30 t425 1).f4) == 0))))) = true := by simpa using c4))
    (try (have c4b2 : (((rd_T30 t425 1).f0) == 1 && (((rd_T30 t425 1).f1) == 4 && ((((rd_T30 t425 1).f2).toList) == ([120] : List UInt8) && (((rd_T30 t425 1).f3) == 0 && (((rd_T30 t425 1).f4) == 0))))) = true := by simpa using c4))
    clear c4
    by_cases c5 : 4 < (t425.length : Int)
    ·rw [if_pos c5] at H
     have c5b0 : decide (4 < (t425.length : Int)) = true := decide_eq_true c5
     have c5b1 : decide (4 < t425.length) = true := decide_eq_true (by omega)
     clear c5
     by_cases c6 : (((rd_T30 t425 4).f0) == 3 && (((rd_T30 t425 4).f1) == 7 && ((((rd_T30 t425 4).f2).toList) == ([46, 46] : List UInt8) && (((rd_T30 t425 4).f3) == 0 && (((rd_T30 t425 4).f4) == 0))))) = true
     ·rw [if_pos c6] at H
      have c6b0 : (((rd_T30 t425 4).f0) == 3 && (((rd_T30 t425 4).f1) == 7 && ((((rd_T30 t425 4).f2).toList) == ([46, 46] : List UInt8) && (((rd_T30 t425 4).f3) == 0 && (((rd_T30 t425 4).f4) == 0))))) = true := c6
      (try (have c6b1 : decide (((rd_T30 t425 4).f0) = 3 && (((rd_T30 t425 4).f1) == 7 && ((((rd_T30 t425 4).f2).toList) == ([46, 46] : List UInt8) && (((rd_T30 t425 4).f3) == 0 && (((rd_T30 t425 4).f4) == 0))))) = true := by simpa using c6))
      (try (have c6b2 : (((rd_T30 t425 4).f0) == 3 && (((rd_T30 t425 4).f1) == 7 && ((((rd_T30 t425 4).f2).toList) == ([46, 46] : List UInt8) && (((rd_T30 t425 4).f3) == 0 && (((rd_T30 t425 4).f4) == 0))))) = true := by simpa using c6))
      clear c6
      by_cases c7 : 6 < (t425.length : Int)
      ·rw [if_pos c7] at H
       have c7b0 : decide (6 < (t425.length : Int)) = true := decide_eq_true c7
       have c7b1 : decide (6 < t425.length) = true := decide_eq_true (by omega)
       clear c7
       by_cases c8 : ((rd_T30 t425 6).f0) = 7
       ·rw [if_pos c8] at H
        have c8b0 : (((rd_T30 t425 6).f0) == 7) = true := beq_iff_eq.mpr c8
        have c8b1 : (((rd_T30 t425 6).f0) != 7) = false := bne_eq_false_iff_eq.mpr c8
        clear c8
        by_cases c9 : ((rd_T30 t425 6).f1) = 14
        ·rw [if_pos c9] at H
         have c9b0 : (((rd_T30 t425 6).f1) == 14) = true := beq_iff_eq.mpr c9
         have c9b1 : (((rd_T30 t425 6).f1) != 14) = false := bne_eq_false_iff_eq.mpr c9
         clear c9
         obtain rfl := Option.some.inj H
         go_enter Tryd.func12, Tryd.ntmps12
         go_wp2_with (first | ((with_reducible refine gate_callee (f := 9) rfl ?_); refine goesL_ (some 4) rfl rfl Tryd.func9 (by kernel_rfl) rfl #[.string (⟨#[108, 101, 116, 32, 120, 61, 49, 46, 46, 50, 32, 35, 32, 121]⟩ : ByteArray)] rfl (by (try simp only [List.map_toArray, List.map_cons, List.map_nil]); first | done | rfl | (simp only [List.length_drop, List.length_take]; rfl)) ?_; (with_reducible refine (lex_All.calls (hG := (by first | exact Glob.at_ HG0.out (by repeat (first | (with_reducible first | exact HB.out | apply below_alloc | apply pw_below_drewN | apply below_drew1 | refine below_set ?_ GE430.out) | exact HB.out)) | exact Glob.at_ HG0.out (Below.refl _ _))) (⟨#[108, 101, 116, 32, 120, 61, 49, 46, 46, 50, 32, 35, 32, 121]⟩ : ByteArray) t425 t428 t429 _ A1.out).mono ?_); rintro e w10 ⟨v426, rfl, ho0, hb⟩; refine ⟨_, rfl, ?_⟩; have n0_ := Aside0.mk (Kd.R_lower ho0 (below_size (by repeat (first | (with_reducible first | exact HB.out | apply below_alloc | apply pw_below_drewN | apply below_drew1) | exact HB.out)))); have n1_ := Aside0.mk (below_step (by repeat (first | (with_reducible first | exact HB.out | apply below_alloc | apply pw_below_drewN | apply below_drew1) | exact HB.out)) hb); clear HB; have HO427 := n0_; have HB := n1_; clear n0_ n1_; (try clear hb); (try clear hb2); (try clear hk); (try clear hi); (try clear ho0)) | ((with_reducible refine gate_dst (N := 2) rfl ?_); refine box_event ?hg (N := 2) ?hd (cs := #[.int .i64 0, .int .i64 0]) (t := 25) ?hr ?_; (case hd => rfl); (case hg => rfl); (case hr => first | (go_simp; done) | (go_simp; rfl)); intro gb430 hg w11 hbox hb; have n0_ := Aside0.mk (Kd.R_below (by (with_reducible repeat (first | apply Kd.R_alloc | apply Kd.R_drewN | apply Kd.R_drew)); exact HO427.out) hb); have n1_ := Aside0.mk (below_step (by repeat (first | (with_reducible first | exact HB.out | apply below_alloc | apply pw_below_drewN | apply below_drew1) | exact HB.out)) hb); have n2_ := Aside0.mk (hbox); have n3_ := Aside0.mk ((by rw [hg]; exact (below_size (by repeat (first | (with_reducible first | exact HB.out | apply below_alloc | apply pw_below_drewN | apply below_drew1) | exact HB.out))) : w.heap.size ≤ gb430)); have n4_ := Aside0.mk ((by rw [hg]; exact (below_size (by repeat (first | (with_reducible first | exact HB.out | apply below_alloc | apply pw_below_drewN | apply below_drew1) | exact HB.out))) : w.heap.size ≤ gb430)); clear HO427; clear HB; have HO427 := n0_; have HB := n1_; have BK430 := n2_; have GW430 := n3_; have GE430 := n4_; clear n0_ n1_ n2_ n3_ n4_; clear hb hbox hg; have hcz12_0 : w11.cell? ⟨gb430, 0, none⟩ = some (.int .i64 0) := (blk_cell BK430.out 0).trans rfl; have hcz12_1 : w11.cell? ⟨gb430, 1, none⟩ = some (.int .i64 0) := (blk_cell BK430.out 1).trans rfl; have hfz12_0 := blk_frozen BK430.out 0; have hfz12_1 := blk_frozen BK430.out 1; obtain ⟨Ao13, co13, eo13⟩ := Kd.R_slice HO427.out; subst eo13; have p431 : 0 ≤ (1 : Int) := (by omega); have q431 : 1 < (t425.length : Int) := of_decide_eq_true (by first | (with_reducible assumption) | assumption); obtain ⟨ad431, e431, hx431_0, hx431_1, hx431_2, hx431_3, hx431_4⟩ := at_T30 (Kd.R_reads' HO427.out).2.2 1 p431 q431; cases e431; (try simp only [show (1 : Int).toNat = 1 from rfl, Nat.reduceMul, Nat.reduceEqDiff, Go.Addr.add, ↓reduceIte] at hx431_0); (try simp only [show (1 : Int).toNat = 1 from rfl, Nat.reduceMul, Nat.reduceEqDiff, Go.Addr.add, ↓reduceIte] at hx431_1); (try simp only [show (1 : Int).toNat = 1 from rfl, Nat.reduceMul, Nat.reduceEqDiff, Go.Addr.add, ↓reduceIte] at hx431_2); (try simp only [show (1 : Int).toNat = 1 from rfl, Nat.reduceMul, Nat.reduceEqDiff, Go.Addr.add, ↓reduceIte] at hx431_3); (try simp only [show (1 : Int).toNat = 1 from rfl, Nat.reduceMul, Nat.reduceEqDiff, Go.Addr.add, ↓reduceIte] at hx431_4); have qi431 : (1 < t425.length) = True := eq_true (by omega); (try rw [show ((1 : Int)).toNat = 1 from rfl] at hx431_0); (try rw [show 1 * 5 = 5 from rfl] at hx431_0); (try rw [show ((1 : Int)).toNat = 1 from rfl] at hx431_1); (try rw [show 1 * 5 = 5 from rfl] at hx431_1); (try rw [show ((1 : Int)).toNat = 1 from rfl] at hx431_2); (try rw [show 1 * 5 = 5 from rfl] at hx431_2); (try rw [show ((1 : Int)).toNat = 1 from rfl] at hx431_3); (try rw [show 1 * 5 = 5 from rfl] at hx431_3); (try rw [show ((1 : Int)).toNat = 1 from rfl] at hx431_4); (try rw [show 1 * 5 = 5 from rfl] at hx431_4); have hn431_0 : ad431.block ≠ gb430 := Kd.own_blk (Kd.R_ne HO427.out BK430.out (by decide)); have hn431_1 : ad431.block ≠ gb430 := Kd.own_blk (Kd.R_ne HO427.out BK430.out (by decide)); replace hx431_0 := (cell_far (p := ⟨gb430, 0, none⟩) (by first | (rw [add_block]; exact hn431_0) | (show (Addr.add _ _).block ≠ _; rw [add_block]; exact hn431_0) | exact hn431_0) (.int .i64 t428)).trans hx431_0; replace hx431_1 := (cell_far (p := ⟨gb430, 0, none⟩) (by first | (rw [add_block]; exact hn431_0) | (show (Addr.add _ _).block ≠ _; rw [add_block]; exact hn431_0) | exact hn431_0) (.int .i64 t428)).trans hx431_1; replace hx431_2 := (cell_far (p := ⟨gb430, 0, none⟩) (by first | (rw [add_block]; exact hn431_0) | (show (Addr.add _ _).block ≠ _; rw [add_block]; exact hn431_0) | exact hn431_0) (.int .i64 t428)).trans hx431_2; replace hx431_3 := (cell_far (p := ⟨gb430, 0, none⟩) (by first | (rw [add_block]; exact hn431_0) | (show (Addr.add _ _).block ≠ _; rw [add_block]; exact hn431_0) | exact hn431_0) (.int .i64 t428)).trans hx431_3; replace hx431_4 := (cell_far (p := ⟨gb430, 0, none⟩) (by first | (rw [add_block]; exact hn431_0) | (show (Addr.add _ _).block ≠ _; rw [add_block]; exact hn431_0) | exact hn431_0) (.int .i64 t428)).trans hx431_4; replace hx431_0 := (cell_far (p := ⟨gb430, 1, none⟩) (by first | (rw [add_block]; exact hn431_1) | (show (Addr.add _ _).block ≠ _; rw [add_block]; exact hn431_1) | exact hn431_1) (.int .i64 t429)).trans hx431_0; replace hx431_1 := (cell_far (p := ⟨gb430, 1, none⟩) (by first | (rw [add_block]; exact hn431_1) | (show (Addr.add _ _).block ≠ _; rw [add_block]; exact hn431_1) | exact hn431_1) (.int .i64 t429)).trans hx431_1; replace hx431_2 := (cell_far (p := ⟨gb430, 1, none⟩) (by first | (rw [add_block]; exact hn431_1) | (show (Addr.add _ _).block ≠ _; rw [add_block]; exact hn431_1) | exact hn431_1) (.int .i64 t429)).trans hx431_2; replace hx431_3 := (cell_far (p := ⟨gb430, 1, none⟩) (by first | (rw [add_block]; exact hn431_1) | (show (Addr.add _ _).block ≠ _; rw [add_block]; exact hn431_1) | exact hn431_1) (.int .i64 t429)).trans hx431_3; replace hx431_4 := (cell_far (p := ⟨gb430, 1, none⟩) (by first | (rw [add_block]; exact hn431_1) | (show (Addr.add _ _).block ≠ _; rw [add_block]; exact hn431_1) | exact hn431_1) (.int .i64 t429)).trans hx431_4; clear hn431_0; clear hn431_1; replace p431 := eq_true p431; replace q431 := eq_true q431; have p432 : 0 ≤ (4 : Int) := (by omega); have q432 : 4 < (t425.length : Int) := of_decide_eq_true (by first | (with_reducible assumption) | assumption); obtain ⟨ad432, e432, hx432_0, hx432_1, hx432_2, hx432_3, hx432_4⟩ := at_T30 (Kd.R_reads' HO427.out).2.2 4 p432 q432; obtain rfl : ad431 = ad432 := (by injection e432); (try simp only [show (4 : Int).toNat = 4 from rfl, Nat.reduceMul, Nat.reduceEqDiff, Go.Addr.add, ↓reduceIte] at hx432_0); (try simp only [show (4 : Int).toNat = 4 from rfl, Nat.reduceMul, Nat.reduceEqDiff, Go.Addr.add, ↓reduceIte] at hx432_1); (try simp only [show (4 : Int).toNat = 4 from rfl, Nat.reduceMul, Nat.reduceEqDiff, Go.Addr.add, ↓reduceIte] at hx432_2); (try simp only [show (4 : Int).toNat = 4 from rfl, Nat.reduceMul, Nat.reduceEqDiff, Go.Addr.add, ↓reduceIte] at hx432_3); (try simp only [show (4 : Int).toNat = 4 from rfl, Nat.reduceMul, Nat.reduceEqDiff, Go.Addr.add, ↓reduceIte] at hx432_4); have qi432 : (4 < t425.length) = True := eq_true (by omega); (try rw [show ((4 : Int)).toNat = 4 from rfl] at hx432_0); (try rw [show 4 * 5 = 20 from rfl] at hx432_0); (try rw [show ((4 : Int)).toNat = 4 from rfl] at hx432_1); (try rw [show 4 * 5 = 20 from rfl] at hx432_1); (try rw [show ((4 : Int)).toNat = 4 from rfl] at hx432_2); (try rw [show 4 * 5 = 20 from rfl] at hx432_2); (try rw [show ((4 : Int)).toNat = 4 from rfl] at hx432_3); (try rw [show 4 * 5 = 20 from rfl] at hx432_3); (try rw [show ((4 : Int)).toNat = 4 from rfl] at hx432_4); (try rw [show 4 * 5 = 20 from rfl] at hx432_4); have hn432_0 : ad431.block ≠ gb430 := Kd.own_blk (Kd.R_ne HO427.out BK430.out (by decide)); have hn432_1 : ad431.block ≠ gb430 := Kd.own_blk (Kd.R_ne HO427.out BK430.out (by decide)); replace hx432_0 := (cell_far (p := ⟨gb430, 0, none⟩) (by first | (rw [add_block]; exact hn432_0) | (show (Addr.add _ _).block ≠ _; rw [add_block]; exact hn432_0) | exact hn432_0) (.int .i64 t428)).trans hx432_0; replace hx432_1 := (cell_far (p := ⟨gb430, 0, none⟩) (by first | (rw [add_block]; exact hn432_0) | (show (Addr.add _ _).block ≠ _; rw [add_block]; exact hn432_0) | exact hn432_0) (.int .i64 t428)).trans hx432_1; replace hx432_2 := (cell_far (p := ⟨gb430, 0, none⟩) (by first | (rw [add_block]; exact hn432_0) | (show (Addr.add _ _).block ≠ _; rw [add_block]; exact hn432_0) | exact hn432_0) (.int .i64 t428)).trans hx432_2; replace hx432_3 := (cell_far (p := ⟨gb430, 0, none⟩) (by first | (rw [add_block]; exact hn432_0) | (show (Addr.add _ _).block ≠ _; rw [add_block]; exact hn432_0) | exact hn432_0) (.int .i64 t428)).trans hx432_3; replace hx432_4 := (cell_far (p := ⟨gb430, 0, none⟩) (by first | (rw [add_block]; exact hn432_0) | (show (Addr.add _ _).block ≠ _; rw [add_block]; exact hn432_0) | exact hn432_0) (.int .i64 t428)).trans hx432_4; replace hx432_0 := (cell_far (p := ⟨gb430, 1, none⟩) (by first | (rw [add_block]; exact hn432_1) | (show (Addr.add _ _).block ≠ _; rw [add_block]; exact hn432_1) | exact hn432_1) (.int .i64 t429)).trans hx432_0; replace hx432_1 := (cell_far (p := ⟨gb430, 1, none⟩) (by first | (rw [add_block]; exact hn432_1) | (show (Addr.add _ _).block ≠ _; rw [add_block]; exact hn432_1) | exact hn432_1) (.int .i64 t429)).trans hx432_1; replace hx432_2 := (cell_far (p := ⟨gb430, 1, none⟩) (by first | (rw [add_block]; exact hn432_1) | (show (Addr.add _ _).block ≠ _; rw [add_block]; exact hn432_1) | exact hn432_1) (.int .i64 t429)).trans hx432_2; replace hx432_3 := (cell_far (p := ⟨gb430, 1, none⟩) (by first | (rw [add_block]; exact hn432_1) | (show (Addr.add _ _).block ≠ _; rw [add_block]; exact hn432_1) | exact hn432_1) (.int .i64 t429)).trans hx432_3; replace hx432_4 := (cell_far (p := ⟨gb430, 1, none⟩) (by first | (rw [add_block]; exact hn432_1) | (show (Addr.add _ _).block ≠ _; rw [add_block]; exact hn432_1) | exact hn432_1) (.int .i64 t429)).trans hx432_4; clear hn432_0; clear hn432_1; replace p432 := eq_true p432; replace q432 := eq_true q432; have p433 : 0 ≤ (6 : Int) := (by omega); have q433 : 6 < (t425.length : Int) := of_decide_eq_true (by first | (with_reducible assumption) | assumption); obtain ⟨ad433, e433, hx433_0, hx433_1, hx433_2, hx433_3, hx433_4⟩ := at_T30 (Kd.R_reads' HO427.out).2.2 6 p433 q433; obtain rfl : ad431 = ad433 := (by injection e433); (try simp only [show (6 : Int).toNat = 6 from rfl, Nat.reduceMul, Nat.reduceEqDiff, Go.Addr.add, ↓reduceIte] at hx433_0); (try simp only [show (6 : Int).toNat = 6 from rfl, Nat.reduceMul, Nat.reduceEqDiff, Go.Addr.add, ↓reduceIte] at hx433_1); (try simp only [show (6 : Int).toNat = 6 from rfl, Nat.reduceMul, Nat.reduceEqDiff, Go.Addr.add, ↓reduceIte] at hx433_2); (try simp only [show (6 : Int).toNat = 6 from rfl, Nat.reduceMul, Nat.reduceEqDiff, Go.Addr.add, ↓reduceIte] at hx433_3); (try simp only [show (6 : Int).toNat = 6 from rfl, Nat.reduceMul, Nat.reduceEqDiff, Go.Addr.add, ↓reduceIte] at hx433_4); have qi433 : (6 < t425.length) = True := eq_true (by omega); (try rw [show ((6 : Int)).toNat = 6 from rfl] at hx433_0); (try rw [show 6 * 5 = 30 from rfl] at hx433_0); (try rw [show ((6 : Int)).toNat = 6 from rfl] at hx433_1); (try rw [show 6 * 5 = 30 from rfl] at hx433_1); (try rw [show ((6 : Int)).toNat = 6 from rfl] at hx433_2); (try rw [show 6 * 5 = 30 from rfl] at hx433_2); (try rw [show ((6 : Int)).toNat = 6 from rfl] at hx433_3); (try rw [show 6 * 5 = 30 from rfl] at hx433_3); (try rw [show ((6 : Int)).toNat = 6 from rfl] at hx433_4); (try rw [show 6 * 5 = 30 from rfl] at hx433_4); have hn433_0 : ad431.block ≠ gb430 := Kd.own_blk (Kd.R_ne HO427.out BK430.out (by decide)); have hn433_1 : ad431.block ≠ gb430 := Kd.own_blk (Kd.R_ne HO427.out BK430.out (by decide)); replace hx433_0 := (cell_far (p := ⟨gb430, 0, none⟩) (by first | (rw [add_block]; exact hn433_0) | (show (Addr.add _ _).block ≠ _; rw [add_block]; exact hn433_0) | exact hn433_0) (.int .i64 t428)).trans hx433_0; replace hx433_1 := (cell_far (p := ⟨gb430, 0, none⟩) (by first | (rw [add_block]; exact hn433_0) | (show (Addr.add _ _).block ≠ _; rw [add_block]; exact hn433_0) | exact hn433_0) (.int .i64 t428)).trans hx433_1; replace hx433_2 := (cell_far (p := ⟨gb430, 0, none⟩) (by first | (rw [add_block]; exact hn433_0) | (show (Addr.add _ _).block ≠ _; rw [add_block]; exact hn433_0) | exact hn433_0) (.int .i64 t428)).trans hx433_2; replace hx433_3 := (cell_far (p := ⟨gb430, 0, none⟩) (by first | (rw [add_block]; exact hn433_0) | (show (Addr.add _ _).block ≠ _; rw [add_block]; exact hn433_0) | exact hn433_0) (.int .i64 t428)).trans hx433_3; replace hx433_4 := (cell_far (p := ⟨gb430, 0, none⟩) (by first | (rw [add_block]; exact hn433_0) | (show (Addr.add _ _).block ≠ _; rw [add_block]; exact hn433_0) | exact hn433_0) (.int .i64 t428)).trans hx433_4; replace hx433_0 := (cell_far (p := ⟨gb430, 1, none⟩) (by first | (rw [add_block]; exact hn433_1) | (show (Addr.add _ _).block ≠ _; rw [add_block]; exact hn433_1) | exact hn433_1) (.int .i64 t429)).trans hx433_0; replace hx433_1 := (cell_far (p := ⟨gb430, 1, none⟩) (by first | (rw [add_block]; exact hn433_1) | (show (Addr.add _ _).block ≠ _; rw [add_block]; exact hn433_1) | exact hn433_1) (.int .i64 t429)).trans hx433_1; replace hx433_2 := (cell_far (p := ⟨gb430, 1, none⟩) (by first | (rw [add_block]; exact hn433_1) | (show (Addr.add _ _).block ≠ _; rw [add_block]; exact hn433_1) | exact hn433_1) (.int .i64 t429)).trans hx433_2; replace hx433_3 := (cell_far (p := ⟨gb430, 1, none⟩) (by first | (rw [add_block]; exact hn433_1) | (show (Addr.add _ _).block ≠ _; rw [add_block]; exact hn433_1) | exact hn433_1) (.int .i64 t429)).trans hx433_3; replace hx433_4 := (cell_far (p := ⟨gb430, 1, none⟩) (by first | (rw [add_block]; exact hn433_1) | (show (Addr.add _ _).block ≠ _; rw [add_block]; exact hn433_1) | exact hn433_1) (.int .i64 t429)).trans hx433_4; clear hn433_0; clear hn433_1; replace p433 := eq_true p433; replace q433 := eq_true q433; have p434 : 0 ≤ (6 : Int) := (by omega); have q434 : 6 < (t425.length : Int) := of_decide_eq_true (by first | (with_reducible assumption) | assumption); obtain ⟨ad434, e434, hx434_0, hx434_1, hx434_2, hx434_3, hx434_4⟩ := at_T30 (Kd.R_reads' HO427.out).2.2 6 p434 q434; obtain rfl : ad431 = ad434 := (by injection e434); (try simp only [show (6 : Int).toNat = 6 from rfl, Nat.reduceMul, Nat.reduceEqDiff, Go.Addr.add, ↓reduceIte] at hx434_0); (try simp only [show (6 : Int).toNat = 6 from rfl, Nat.reduceMul, Nat.reduceEqDiff, Go.Addr.add, ↓reduceIte] at hx434_1); (try simp only [show (6 : Int).toNat = 6 from rfl, Nat.reduceMul, Nat.reduceEqDiff, Go.Addr.add, ↓reduceIte] at hx434_2); (try simp only [show (6 : Int).toNat = 6 from rfl, Nat.reduceMul, Nat.reduceEqDiff, Go.Addr.add, ↓reduceIte] at hx434_3); (try simp only [show (6 : Int).toNat = 6 from rfl, Nat.reduceMul, Nat.reduceEqDiff, Go.Addr.add, ↓reduceIte] at hx434_4); have qi434 : (6 < t425.length) = True := eq_true (by omega); (try rw [show ((6 : Int)).toNat = 6 from rfl] at hx434_0); (try rw [show 6 * 5 = 30 from rfl] at hx434_0); (try rw [show ((6 : Int)).toNat = 6 from rfl] at hx434_1); (try rw [show 6 * 5 = 30 from rfl] at hx434_1); (try rw [show ((6 : Int)).toNat = 6 from rfl] at hx434_2); (try rw [show 6 * 5 = 30 from rfl] at hx434_2); (try rw [show ((6 : Int)).toNat = 6 from rfl] at hx434_3); (try rw [show 6 * 5 = 30 from rfl] at hx434_3); (try rw [show ((6 : Int)).toNat = 6 from rfl] at hx434_4); (try rw [show 6 * 5 = 30 from rfl] at hx434_4); have hn434_0 : ad431.block ≠ gb430 := Kd.own_blk (Kd.R_ne HO427.out BK430.out (by decide)); have hn434_1 : ad431.block ≠ gb430 := Kd.own_blk (Kd.R_ne HO427.out BK430.out (by decide)); replace hx434_0 := (cell_far (p := ⟨gb430, 0, none⟩) (by first | (rw [add_block]; exact hn434_0) | (show (Addr.add _ _).block ≠ _; rw [add_block]; exact hn434_0) | exact hn434_0) (.int .i64 t428)).trans hx434_0; replace hx434_1 := (cell_far (p := ⟨gb430, 0, none⟩) (by first | (rw [add_block]; exact hn434_0) | (show (Addr.add _ _).block ≠ _; rw [add_block]; exact hn434_0) | exact hn434_0) (.int .i64 t428)).trans hx434_1; replace hx434_2 := (cell_far (p := ⟨gb430, 0, none⟩) (by first | (rw [add_block]; exact hn434_0) | (show (Addr.add _ _).block ≠ _; rw [add_block]; exact hn434_0) | exact hn434_0) (.int .i64 t428)).trans hx434_2; replace hx434_3 := (cell_far (p := ⟨gb430, 0, none⟩) (by first | (rw [add_block]; exact hn434_0) | (show (Addr.add _ _).block ≠ _; rw [add_block]; exact hn434_0) | exact hn434_0) (.int .i64 t428)).trans hx434_3; replace hx434_4 := (cell_far (p := ⟨gb430, 0, none⟩) (by first | (rw [add_block]; exact hn434_0) | (show (Addr.add _ _).block ≠ _; rw [add_block]; exact hn434_0) | exact hn434_0) (.int .i64 t428)).trans hx434_4; replace hx434_0 := (cell_far (p := ⟨gb430, 1, none⟩) (by first | (rw [add_block]; exact hn434_1) | (show (Addr.add _ _).block ≠ _; rw [add_block]; exact hn434_1) | exact hn434_1) (.int .i64 t429)).trans hx434_0; replace hx434_1 := (cell_far (p := ⟨gb430, 1, none⟩) (by first | (rw [add_block]; exact hn434_1) | (show (Addr.add _ _).block ≠ _; rw [add_block]; exact hn434_1) | exact hn434_1) (.int .i64 t429)).trans hx434_1; replace hx434_2 := (cell_far (p := ⟨gb430, 1, none⟩) (by first | (rw [add_block]; exact hn434_1) | (show (Addr.add _ _).block ≠ _; rw [add_block]; exact hn434_1) | exact hn434_1) (.int .i64 t429)).trans hx434_2; replace hx434_3 := (cell_far (p := ⟨gb430, 1, none⟩) (by first | (rw [add_block]; exact hn434_1) | (show (Addr.add _ _).block ≠ _; rw [add_block]; exact hn434_1) | exact hn434_1) (.int .i64 t429)).trans hx434_3; replace hx434_4 := (cell_far (p := ⟨gb430, 1, none⟩) (by first | (rw [add_block]; exact hn434_1) | (show (Addr.add _ _).block ≠ _; rw [add_block]; exact hn434_1) | exact hn434_1) (.int .i64 t429)).trans hx434_4; clear hn434_0; clear hn434_1; replace p434 := eq_true p434; replace q434 := eq_true q434))
         go_ret
         exact ⟨by first | rfl | (simp [errW_none, errW_some] <;> rfl) | (simp [*, errW_none, errW_some] <;> rfl), by repeat (first | (with_reducible first | exact HB.out | apply below_alloc | apply pw_below_drewN | apply below_drew1 | refine below_set ?_ GE430.out) | exact HB.out)⟩
        ·rw [if_neg c9] at H
         have c9b0 : (((rd_T30 t425 6).f1) == 14) = false := beq_eq_false_iff_ne.mpr c9
         have c9b1 : (((rd_T30 t425 6).f1) != 14) = true := bne_iff_ne.mpr c9
         obtain rfl := Option.some.inj H
         go_enter Tryd.func12, Tryd.ntmps12
         go_wp2_with (first | ((with_reducible refine gate_callee (f := 9) rfl ?_); refine goesL_ (some 4) rfl rfl Tryd.func9 (by kernel_rfl) rfl #[.string (⟨#[108, 101, 116, 32, 120, 61, 49, 46, 46, 50, 32, 35, 32, 121]⟩ : ByteArray)] rfl (by (try simp only [List.map_toArray, List.map_cons, List.map_nil]); first | done | rfl | (simp only [List.length_drop, List.length_take]; rfl)) ?_; (with_reducible refine (lex_All.calls (hG := (by first | exact Glob.at_ HG0.out (by repeat (first | (with_reducible first | exact HB.out | apply below_alloc | apply pw_below_drewN | apply below_drew1 | refine below_set ?_ GE430.out) | exact HB.out)) | exact Glob.at_ HG0.out (Below.refl _ _))) (⟨#[108, 101, 116, 32, 120, 61, 49, 46, 46, 50, 32, 35, 32, 121]⟩ : ByteArray) t425 t428 t429 _ A1.out).mono ?_); rintro e w14 ⟨v426, rfl, ho0, hb⟩; refine ⟨_, rfl, ?_⟩; have n0_ := Aside0.mk (Kd.R_lower ho0 (below_size (by repeat (first | (with_reducible first | exact HB.out | apply below_alloc | apply pw_below_drewN | apply below_drew1) | exact HB.out)))); have n1_ := Aside0.mk (below_step (by repeat (first | (with_reducible first | exact HB.out | apply below_alloc | apply pw_below_drewN | apply below_drew1) | exact HB.out)) hb); clear HB; have HO427 := n0_; have HB := n1_; clear n0_ n1_; (try clear hb); (try clear hb2); (try clear hk); (try clear hi); (try clear ho0)) | ((with_reducible refine gate_dst (N := 2) rfl ?_); refine box_event ?hg (N := 2) ?hd (cs := #[.int .i64 0, .int .i64 0]) (t := 25) ?hr ?_; (case hd => rfl); (case hg => rfl); (case hr => first | (go_simp; done) | (go_simp; rfl)); intro gb430 hg w15 hbox hb; have n0_ := Aside0.mk (Kd.R_below (by (with_reducible repeat (first | apply Kd.R_alloc | apply Kd.R_drewN | apply Kd.R_drew)); exact HO427.out) hb); have n1_ := Aside0.mk (below_step (by repeat (first | (with_reducible first | exact HB.out | apply below_alloc | apply pw_below_drewN | apply below_drew1) | exact HB.out)) hb); have n2_ := Aside0.mk (hbox); have n3_ := Aside0.mk ((by rw [hg]; exact (below_size (by repeat (first | (with_reducible first | exact HB.out | apply below_alloc | apply pw_below_drewN | apply below_drew1) | exact HB.out))) : w.heap.size ≤ gb430)); have n4_ := Aside0.mk ((by rw [hg]; exact (below_size (by repeat (first | (with_reducible first | exact HB.out | apply below_alloc | apply pw_below_drewN | apply below_drew1) | exact HB.out))) : w.heap.size ≤ gb430)); clear HO427; clear HB; have HO427 := n0_; have HB := n1_; have BK430 := n2_; have GW430 := n3_; have GE430 := n4_; clear n0_ n1_ n2_ n3_ n4_; clear hb hbox hg; have hcz16_0 : w15.cell? ⟨gb430, 0, none⟩ = some (.int .i64 0) := (blk_cell BK430.out 0).trans rfl; have hcz16_1 : w15.cell? ⟨gb430, 1, none⟩ = some (.int .i64 0) := (blk_cell BK430.out 1).trans rfl; have hfz16_0 := blk_frozen BK430.out 0; have hfz16_1 := blk_frozen BK430.out 1; obtain ⟨Ao17, co17, eo17⟩ := Kd.R_slice HO427.out; subst eo17; have p431 : 0 ≤ (1 : Int) := (by omega); have q431 : 1 < (t425.length : Int) := of_decide_eq_true (by first | (with_reducible assumption) | assumption); obtain ⟨ad431, e431, hx431_0, hx431_1, hx431_2, hx431_3, hx431_4⟩ := at_T30 (Kd.R_reads' HO427.out).2.2 1 p431 q431; cases e431; (try simp only [show (1 : Int).toNat = 1 from rfl, Nat.reduceMul, Nat.reduceEqDiff, Go.Addr.add, ↓reduceIte] at hx431_0); (try simp only [show (1 : Int).toNat = 1 from rfl, Nat.reduceMul, Nat.reduceEqDiff, Go.Addr.add, ↓reduceIte] at hx431_1); (try simp only [show (1 : Int).toNat = 1 from rfl, Nat.reduceMul, Nat.reduceEqDiff, Go.Addr.add, ↓reduceIte] at hx431_2); (try simp only [show (1 : Int).toNat = 1 from rfl, Nat.reduceMul, Nat.reduceEqDiff, Go.Addr.add, ↓reduceIte] at hx431_3); (try simp only [show (1 : Int).toNat = 1 from rfl, Nat.reduceMul, Nat.reduceEqDiff, Go.Addr.add, ↓reduceIte] at hx431_4); have qi431 : (1 < t425.length) = True := eq_true (by omega); (try rw [show ((1 : Int)).toNat = 1 from rfl] at hx431_0); (try rw [show 1 * 5 = 5 from rfl] at hx431_0); (try rw [show ((1 : Int)).toNat = 1 from rfl] at hx431_1); (try rw [show 1 * 5 = 5 from rfl] at hx431_1); (try rw [show ((1 : Int)).toNat = 1 from rfl] at hx431_2); (try rw [show 1 * 5 = 5 from rfl] at hx431_2); (try rw [show ((1 : Int)).toNat = 1 from rfl] at hx431_3); (try rw [show 1 * 5 = 5 from rfl] at hx431_3); (try rw [show ((1 : Int)).toNat = 1 from rfl] at hx431_4); (try rw [show 1 * 5 = 5 from rfl] at hx431_4); have hn431_0 : ad431.block ≠ gb430 := Kd.own_blk (Kd.R_ne HO427.out BK430.out (by decide)); have hn431_1 : ad431.block ≠ gb430 := Kd.own_blk (Kd.R_ne HO427.out BK430.out (by decide)); replace hx431_0 := (cell_far (p := ⟨gb430, 0, none⟩) (by first | (rw [add_block]; exact hn431_0) | (show (Addr.add _ _).block ≠ _; rw [add_block]; exact hn431_0) | exact hn431_0) (.int .i64 t428)).trans hx431_0; replace hx431_1 := (cell_far (p := ⟨gb430, 0, none⟩) (by first | (rw [add_block]; exact hn431_0) | (show (Addr.add _ _).block ≠ _; rw [add_block]; exact hn431_0) | exact hn431_0) (.int .i64 t428)).trans hx431_1; replace hx431_2 := (cell_far (p := ⟨gb430, 0, none⟩) (by first | (rw [add_block]; exact hn431_0) | (show (Addr.add _ _).block ≠ _; rw [add_block]; exact hn431_0) | exact hn431_0) (.int .i64 t428)).trans hx431_2; replace hx431_3 := (cell_far (p := ⟨gb430, 0, none⟩) (by first | (rw [add_block]; exact hn431_0) | (show (Addr.add _ _).block ≠ _; rw [add_block]; exact hn431_0) | exact hn431_0) (.int .i64 t428)).trans hx431_3; replace hx431_4 := (cell_far (p := ⟨gb430, 0, none⟩) (by first | (rw [add_block]; exact hn431_0) | (show (Addr.add _ _).block ≠ _; rw [add_block]; exact hn431_0) | exact hn431_0) (.int .i64 t428)).trans hx431_4; replace hx431_0 := (cell_far (p := ⟨gb430, 1, none⟩) (by first | (rw [add_block]; exact hn431_1) | (show (Addr.add _ _).block ≠ _; rw [add_block]; exact hn431_1) | exact hn431_1) (.int .i64 t429)).trans hx431_0; replace hx431_1 := (cell_far (p := ⟨gb430, 1, none⟩) (by first | (rw [add_block]; exact hn431_1) | (show (Addr.add _ _).block ≠ _; rw [add_block]; exact hn431_1) | exact hn431_1) (.int .i64 t429)).trans hx431_1; replace hx431_2 := (cell_far (p := ⟨gb430, 1, none⟩) (by first | (rw [add_block]; exact hn431_1) | (show (Addr.add _ _).block ≠ _; rw [add_block]; exact hn431_1) | exact hn431_1) (.int .i64 t429)).trans hx431_2; replace hx431_3 := (cell_far (p := ⟨gb430, 1, none⟩) (by first | (rw [add_block]; exact hn431_1) | (show (Addr.add _ _).block ≠ _; rw [add_block]; exact hn431_1) | exact hn431_1) (.int .i64 t429)).trans hx431_3; replace hx431_4 := (cell_far (p := ⟨gb430, 1, none⟩) (by first | (rw [add_block]; exact hn431_1) | (show (Addr.add _ _).block ≠ _; rw [add_block]; exact hn431_1) | exact hn431_1) (.int .i64 t429)).trans hx431_4; clear hn431_0; clear hn431_1; replace p431 := eq_true p431; replace q431 := eq_true q431; have p432 : 0 ≤ (4 : Int) := (by omega); have q432 : 4 < (t425.length : Int) := of_decide_eq_true (by first | (with_reducible assumption) | assumption); obtain ⟨ad432, e432, hx432_0, hx432_1, hx432_2, hx432_3, hx432_4⟩ := at_T30 (Kd.R_reads' HO427.out).2.2 4 p432 q432; obtain rfl : ad431 = ad432 := (by injection e432); (try simp only [show (4 : Int).toNat = 4 from rfl, Nat.reduceMul, Nat.reduceEqDiff, Go.Addr.add, ↓reduceIte] at hx432_0); (try simp only [show (4 : Int).toNat = 4 from rfl, Nat.reduceMul, Nat.reduceEqDiff, Go.Addr.add, ↓reduceIte] at hx432_1); (try simp only [show (4 : Int).toNat = 4 from rfl, Nat.reduceMul, Nat.reduceEqDiff, Go.Addr.add, ↓reduceIte] at hx432_2); (try simp only [show (4 : Int).toNat = 4 from rfl, Nat.reduceMul, Nat.reduceEqDiff, Go.Addr.add, ↓reduceIte] at hx432_3); (try simp only [show (4 : Int).toNat = 4 from rfl, Nat.reduceMul, Nat.reduceEqDiff, Go.Addr.add, ↓reduceIte] at hx432_4); have qi432 : (4 < t425.length) = True := eq_true (by omega); (try rw [show ((4 : Int)).toNat = 4 from rfl] at hx432_0); (try rw [show 4 * 5 = 20 from rfl] at hx432_0); (try rw [show ((4 : Int)).toNat = 4 from rfl] at hx432_1); (try rw [show 4 * 5 = 20 from rfl] at hx432_1); (try rw [show ((4 : Int)).toNat = 4 from rfl] at hx432_2); (try rw [show 4 * 5 = 20 from rfl] at hx432_2); (try rw [show ((4 : Int)).toNat = 4 from rfl] at hx432_3); (try rw [show 4 * 5 = 20 from rfl] at hx432_3); (try rw [show ((4 : Int)).toNat = 4 from rfl] at hx432_4); (try rw [show 4 * 5 = 20 from rfl] at hx432_4); have hn432_0 : ad431.block ≠ gb430 := Kd.own_blk (Kd.R_ne HO427.out BK430.out (by decide)); have hn432_1 : ad431.block ≠ gb430 := Kd.own_blk (Kd.R_ne HO427.out BK430.out (by decide)); replace hx432_0 := (cell_far (p := ⟨gb430, 0, none⟩) (by first | (rw [add_block]; exact hn432_0) | (show (Addr.add _ _).block ≠ _; rw [add_block]; exact hn432_0) | exact hn432_0) (.int .i64 t428)).trans hx432_0; replace hx432_1 := (cell_far (p := ⟨gb430, 0, none⟩) (by first | (rw [add_block]; exact hn432_0) | (show (Addr.add _ _).block ≠ _; rw [add_block]; exact hn432_0) | exact hn432_0) (.int .i64 t428)).trans hx432_1; replace hx432_2 := (cell_far (p := ⟨gb430, 0, none⟩) (by first | (rw [add_block]; exact hn432_0) | (show (Addr.add _ _).block ≠ _; rw [add_block]; exact hn432_0) | exact hn432_0) (.int .i64 t428)).trans hx432_2; replace hx432_3 := (cell_far (p := ⟨gb430, 0, none⟩) (by first | (rw [add_block]; exact hn432_0) | (show (Addr.add _ _).block ≠ _; rw [add_block]; exact hn432_0) | exact hn432_0) (.int .i64 t428)).trans hx432_3; replace hx432_4 := (cell_far (p := ⟨gb430, 0, none⟩) (by first | (rw [add_block]; exact hn432_0) | (show (Addr.add _ _).block ≠ _; rw [add_block]; exact hn432_0) | exact hn432_0) (.int .i64 t428)).trans hx432_4; replace hx432_0 := (cell_far (p := ⟨gb430, 1, none⟩) (by first | (rw [add_block]; exact hn432_1) | (show (Addr.add _ _).block ≠ _; rw [add_block]; exact hn432_1) | exact hn432_1) (.int .i64 t429)).trans hx432_0; replace hx432_1 := (cell_far (p := ⟨gb430, 1, none⟩) (by first | (rw [add_block]; exact hn432_1) | (show (Addr.add _ _).block ≠ _; rw [add_block]; exact hn432_1) | exact hn432_1) (.int .i64 t429)).trans hx432_1; replace hx432_2 := (cell_far (p := ⟨gb430, 1, none⟩) (by first | (rw [add_block]; exact hn432_1) | (show (Addr.add _ _).block ≠ _; rw [add_block]; exact hn432_1) | exact hn432_1) (.int .i64 t429)).trans hx432_2; replace hx432_3 := (cell_far (p := ⟨gb430, 1, none⟩) (by first | (rw [add_block]; exact hn432_1) | (show (Addr.add _ _).block ≠ _; rw [add_block]; exact hn432_1) | exact hn432_1) (.int .i64 t429)).trans hx432_3; replace hx432_4 := (cell_far (p := ⟨gb430, 1, none⟩) (by first | (rw [add_block]; exact hn432_1) | (show (Addr.add _ _).block ≠ _; rw [add_block]; exact hn432_1) | exact hn432_1) (.int .i64 t429)).trans hx432_4; clear hn432_0; clear hn432_1; replace p432 := eq_true p432; replace q432 := eq_true q432; have p433 : 0 ≤ (6 : Int) := (by omega); have q433 : 6 < (t425.length : Int) := of_decide_eq_true (by first | (with_reducible assumption) | assumption); obtain ⟨ad433, e433, hx433_0, hx433_1, hx433_2, hx433_3, hx433_4⟩ := at_T30 (Kd.R_reads' HO427.out).2.2 6 p433 q433; obtain rfl : ad431 = ad433 := (by injection e433); (try simp only [show (6 : Int).toNat = 6 from rfl, Nat.reduceMul, Nat.reduceEqDiff, Go.Addr.add, ↓reduceIte] at hx433_0); (try simp only [show (6 : Int).toNat = 6 from rfl, Nat.reduceMul, Nat.reduceEqDiff, Go.Addr.add, ↓reduceIte] at hx433_1); (try simp only [show (6 : Int).toNat = 6 from rfl, Nat.reduceMul, Nat.reduceEqDiff, Go.Addr.add, ↓reduceIte] at hx433_2); (try simp only [show (6 : Int).toNat = 6 from rfl, Nat.reduceMul, Nat.reduceEqDiff, Go.Addr.add, ↓reduceIte] at hx433_3); (try simp only [show (6 : Int).toNat = 6 from rfl, Nat.reduceMul, Nat.reduceEqDiff, Go.Addr.add, ↓reduceIte] at hx433_4); have qi433 : (6 < t425.length) = True := eq_true (by omega); (try rw [show ((6 : Int)).toNat = 6 from rfl] at hx433_0); (try rw [show 6 * 5 = 30 from rfl] at hx433_0); (try rw [show ((6 : Int)).toNat = 6 from rfl] at hx433_1); (try rw [show 6 * 5 = 30 from rfl] at hx433_1); (try rw [show ((6 : Int)).toNat = 6 from rfl] at hx433_2); (try rw [show 6 * 5 = 30 from rfl] at hx433_2); (try rw [show ((6 : Int)).toNat = 6 from rfl] at hx433_3); (try rw [show 6 * 5 = 30 from rfl] at hx433_3); (try rw [show ((6 : Int)).toNat = 6 from rfl] at hx433_4); (try rw [show 6 * 5 = 30 from rfl] at hx433_4); have hn433_0 : ad431.block ≠ gb430 := Kd.own_blk (Kd.R_ne HO427.out BK430.out (by decide)); have hn433_1 : ad431.block ≠ gb430 := Kd.own_blk (Kd.R_ne HO427.out BK430.out (by decide)); replace hx433_0 := (cell_far (p := ⟨gb430, 0, none⟩) (by first | (rw [add_block]; exact hn433_0) | (show (Addr.add _ _).block ≠ _; rw [add_block]; exact hn433_0) | exact hn433_0) (.int .i64 t428)).trans hx433_0; replace hx433_1 := (cell_far (p := ⟨gb430, 0, none⟩) (by first | (rw [add_block]; exact hn433_0) | (show (Addr.add _ _).block ≠ _; rw [add_block]; exact hn433_0) | exact hn433_0) (.int .i64 t428)).trans hx433_1; replace hx433_2 := (cell_far (p := ⟨gb430, 0, none⟩) (by first | (rw [add_block]; exact hn433_0) | (show (Addr.add _ _).block ≠ _; rw [add_block]; exact hn433_0) | exact hn433_0) (.int .i64 t428)).trans hx433_2; replace hx433_3 := (cell_far (p := ⟨gb430, 0, none⟩) (by first | (rw [add_block]; exact hn433_0) | (show (Addr.add _ _).block ≠ _; rw [add_block]; exact hn433_0) | exact hn433_0) (.int .i64 t428)).trans hx433_3; replace hx433_4 := (cell_far (p := ⟨gb430, 0, none⟩) (by first | (rw [add_block]; exact hn433_0) | (show (Addr.add _ _).block ≠ _; rw [add_block]; exact hn433_0) | exact hn433_0) (.int .i64 t428)).trans hx433_4; replace hx433_0 := (cell_far (p := ⟨gb430, 1, none⟩) (by first | (rw [add_block]; exact hn433_1) | (show (Addr.add _ _).block ≠ _; rw [add_block]; exact hn433_1) | exact hn433_1) (.int .i64 t429)).trans hx433_0; replace hx433_1 := (cell_far (p := ⟨gb430, 1, none⟩) (by first | (rw [add_block]; exact hn433_1) | (show (Addr.add _ _).block ≠ _; rw [add_block]; exact hn433_1) | exact hn433_1) (.int .i64 t429)).trans hx433_1; replace hx433_2 := (cell_far (p := ⟨gb430, 1, none⟩) (by first | (rw [add_block]; exact hn433_1) | (show (Addr.add _ _).block ≠ _; rw [add_block]; exact hn433_1) | exact hn433_1) (.int .i64 t429)).trans hx433_2; replace hx433_3 := (cell_far (p := ⟨gb430, 1, none⟩) (by first | (rw [add_block]; exact hn433_1) | (show (Addr.add _ _).block ≠ _; rw [add_block]; exact hn433_1) | exact hn433_1) (.int .i64 t429)).trans hx433_3; replace hx433_4 := (cell_far (p := ⟨gb430, 1, none⟩) (by first | (rw [add_block]; exact hn433_1) | (show (Addr.add _ _).block ≠ _; rw [add_block]; exact hn433_1) | exact hn433_1) (.int .i64 t429)).trans hx433_4; clear hn433_0; clear hn433_1; replace p433 := eq_true p433; replace q433 := eq_true q433; have p434 : 0 ≤ (6 : Int) := (by omega); have q434 : 6 < (t425.length : Int) := of_decide_eq_true (by first | (with_reducible assumption) | assumption); obtain ⟨ad434, e434, hx434_0, hx434_1, hx434_2, hx434_3, hx434_4⟩ := at_T30 (Kd.R_reads' HO427.out).2.2 6 p434 q434; obtain rfl : ad431 = ad434 := (by injection e434); (try simp only [show (6 : Int).toNat = 6 from rfl, Nat.reduceMul, Nat.reduceEqDiff, Go.Addr.add, ↓reduceIte] at hx434_0); (try simp only [show (6 : Int).toNat = 6 from rfl, Nat.reduceMul, Nat.reduceEqDiff, Go.Addr.add, ↓reduceIte] at hx434_1); (try simp only [show (6 : Int).toNat = 6 from rfl, Nat.reduceMul, Nat.reduceEqDiff, Go.Addr.add, ↓reduceIte] at hx434_2); (try simp only [show (6 : Int).toNat = 6 from rfl, Nat.reduceMul, Nat.reduceEqDiff, Go.Addr.add, ↓reduceIte] at hx434_3); (try simp only [show (6 : Int).toNat = 6 from rfl, Nat.reduceMul, Nat.reduceEqDiff, Go.Addr.add, ↓reduceIte] at hx434_4); have qi434 : (6 < t425.length) = True := eq_true (by omega); (try rw [show ((6 : Int)).toNat = 6 from rfl] at hx434_0); (try rw [show 6 * 5 = 30 from rfl] at hx434_0); (try rw [show ((6 : Int)).toNat = 6 from rfl] at hx434_1); (try rw [show 6 * 5 = 30 from rfl] at hx434_1); (try rw [show ((6 : Int)).toNat = 6 from rfl] at hx434_2); (try rw [show 6 * 5 = 30 from rfl] at hx434_2); (try rw [show ((6 : Int)).toNat = 6 from rfl] at hx434_3); (try rw [show 6 * 5 = 30 from rfl] at hx434_3); (try rw [show ((6 : Int)).toNat = 6 from rfl] at hx434_4); (try rw [show 6 * 5 = 30 from rfl] at hx434_4); have hn434_0 : ad431.block ≠ gb430 := Kd.own_blk (Kd.R_ne HO427.out BK430.out (by decide)); have hn434_1 : ad431.block ≠ gb430 := Kd.own_blk (Kd.R_ne HO427.out BK430.out (by decide)); replace hx434_0 := (cell_far (p := ⟨gb430, 0, none⟩) (by first | (rw [add_block]; exact hn434_0) | (show (Addr.add _ _).block ≠ _; rw [add_block]; exact hn434_0) | exact hn434_0) (.int .i64 t428)).trans hx434_0; replace hx434_1 := (cell_far (p := ⟨gb430, 0, none⟩) (by first | (rw [add_block]; exact hn434_0) | (show (Addr.add _ _).block ≠ _; rw [add_block]; exact hn434_0) | exact hn434_0) (.int .i64 t428)).trans hx434_1; replace hx434_2 := (cell_far (p := ⟨gb430, 0, none⟩) (by first | (rw [add_block]; exact hn434_0) | (show (Addr.add _ _).block ≠ _; rw [add_block]; exact hn434_0) | exact hn434_0) (.int .i64 t428)).trans hx434_2; replace hx434_3 := (cell_far (p := ⟨gb430, 0, none⟩) (by first | (rw [add_block]; exact hn434_0) | (show (Addr.add _ _).block ≠ _; rw [add_block]; exact hn434_0) | exact hn434_0) (.int .i64 t428)).trans hx434_3; replace hx434_4 := (cell_far (p := ⟨gb430, 0, none⟩) (by first | (rw [add_block]; exact hn434_0) | (show (Addr.add _ _).block ≠ _; rw [add_block]; exact hn434_0) | exact hn434_0) (.int .i64 t428)).trans hx434_4; replace hx434_0 := (cell_far (p := ⟨gb430, 1, none⟩) (by first | (rw [add_block]; exact hn434_1) | (show (Addr.add _ _).block ≠ _; rw [add_block]; exact hn434_1) | exact hn434_1) (.int .i64 t429)).trans hx434_0; replace hx434_1 := (cell_far (p := ⟨gb430, 1, none⟩) (by first | (rw [add_block]; exact hn434_1) | (show (Addr.add _ _).block ≠ _; rw [add_block]; exact hn434_1) | exact hn434_1) (.int .i64 t429)).trans hx434_1; replace hx434_2 := (cell_far (p := ⟨gb430, 1, none⟩) (by first | (rw [add_block]; exact hn434_1) | (show (Addr.add _ _).block ≠ _; rw [add_block]; exact hn434_1) | exact hn434_1) (.int .i64 t429)).trans hx434_2; replace hx434_3 := (cell_far (p := ⟨gb430, 1, none⟩) (by first | (rw [add_block]; exact hn434_1) | (show (Addr.add _ _).block ≠ _; rw [add_block]; exact hn434_1) | exact hn434_1) (.int .i64 t429)).trans hx434_3; replace hx434_4 := (cell_far (p := ⟨gb430, 1, none⟩) (by first | (rw [add_block]; exact hn434_1) | (show (Addr.add _ _).block ≠ _; rw [add_block]; exact hn434_1) | exact hn434_1) (.int .i64 t429)).trans hx434_4; clear hn434_0; clear hn434_1; replace p434 := eq_true p434; replace q434 := eq_true q434))
         go_ret
         exact ⟨by first | rfl | (simp [errW_none, errW_some] <;> rfl) | (simp [*, errW_none, errW_some] <;> rfl), by repeat (first | (with_reducible first | exact HB.out | apply below_alloc | apply pw_below_drewN | apply below_drew1 | refine below_set ?_ GE430.out) | exact HB.out)⟩
       ·rw [if_neg c8] at H
        have c8b0 : (((rd_T30 t425 6).f0) == 7) = false := beq_eq_false_iff_ne.mpr c8
        have c8b1 : (((rd_T30 t425 6).f0) != 7) = true := bne_iff_ne.mpr c8
        obtain rfl := Option.some.inj H
        go_enter Tryd.func12, Tryd.ntmps12
        go_wp2_with (first | ((with_reducible refine gate_callee (f := 9) rfl ?_); refine goesL_ (some 4) rfl rfl Tryd.func9 (by kernel_rfl) rfl #[.string (⟨#[108, 101, 116, 32, 120, 61, 49, 46, 46, 50, 32, 35, 32, 121]⟩ : ByteArray)] rfl (by (try simp only [List.map_toArray, List.map_cons, List.map_nil]); first | done | rfl | (simp only [List.length_drop, List.length_take]; rfl)) ?_; (with_reducible refine (lex_All.calls (hG := (by first | exact Glob.at_ HG0.out (by repeat (first | (with_reducible first | exact HB.out | apply below_alloc | apply pw_below_drewN | apply below_drew1 | refine below_set ?_ GE430.out) | exact HB.out)) | exact Glob.at_ HG0.out (Below.refl _ _))) (⟨#[108, 101, 116, 32, 120, 61, 49, 46, 46, 50, 32, 35, 32, 121]⟩ : ByteArray) t425 t428 t429 _ A1.out).mono ?_); rintro e w18 ⟨v426, rfl, ho0, hb⟩; refine ⟨_, rfl, ?_⟩; have n0_ := Aside0.mk (Kd.R_lower ho0 (below_size (by repeat (first | (with_reducible first | exact HB.out | apply below_alloc | apply pw_below_drewN | apply below_drew1) | exact HB.out)))); have n1_ := Aside0.mk (below_step (by repeat (first | (with_reducible first | exact HB.out | apply below_alloc | apply pw_below_drewN | apply below_drew1) | exact HB.out)) hb); clear HB; have HO427 := n0_; have HB := n1_; clear n0_ n1_; (try clear hb); (try clear hb2); (try clear hk); (try clear hi); (try clear ho0)) | ((with_reducible refine gate_dst (N := 2) rfl ?_); refine box_event ?hg (N := 2) ?hd (cs := #[.int .i64 0, .int .i64 0]) (t := 25) ?hr ?_; (case hd => rfl); (case hg => rfl); (case hr => first | (go_simp; done) | (go_simp; rfl)); intro gb430 hg w19 hbox hb; have n0_ := Aside0.mk (Kd.R_below (by (with_reducible repeat (first | apply Kd.R_alloc | apply Kd.R_drewN | apply Kd.R_drew)); exact HO427.out) hb); have n1_ := Aside0.mk (below_step (by repeat (first | (with_reducible first | exact HB.out | apply below_alloc | apply pw_below_drewN | apply below_drew1) | exact HB.out)) hb); have n2_ := Aside0.mk (hbox); have n3_ := Aside0.mk ((by rw [hg]; exact (below_size (by repeat (first | (with_reducible first | exact HB.out | apply below_alloc | apply pw_below_drewN | apply below_drew1) | exact HB.out))) : w.heap.size ≤ gb430)); have n4_ := Aside0.mk ((by rw [hg]; exact (below_size (by repeat (first | (with_reducible first | exact HB.out | apply below_alloc | apply pw_below_drewN | apply below_drew1) | exact HB.out))) : w.heap.size ≤ gb430)); clear HO427; clear HB; have HO427 := n0_; have HB := n1_; have BK430 := n2_; have GW430 := n3_; have GE430 := n4_; clear n0_ n1_ n2_ n3_ n4_; clear hb hbox hg; have hcz20_0 : w19.cell? ⟨gb430, 0, none⟩ = some (.int .i64 0) := (blk_cell BK430.out 0).trans rfl; have hcz20_1 : w19.cell? ⟨gb430, 1, none⟩ = some (.int .i64 0) := (blk_cell BK430.out 1).trans rfl; have hfz20_0 := blk_frozen BK430.out 0; have hfz20_1 := blk_frozen BK430.out 1; obtain ⟨Ao21, co21, eo21⟩ := Kd.R_slice HO427.out; subst eo21; have p431 : 0 ≤ (1 : Int) := (by omega); have q431 : 1 < (t425.length : Int) := of_decide_eq_true (by first | (with_reducible assumption) | assumption); obtain ⟨ad431, e431, hx431_0, hx431_1, hx431_2, hx431_3, hx431_4⟩ := at_T30 (Kd.R_reads' HO427.out).2.2 1 p431 q431; cases e431; (try simp only [show (1 : Int).toNat = 1 from rfl, Nat.reduceMul, Nat.reduceEqDiff, Go.Addr.add, ↓reduceIte] at hx431_0); (try simp only [show (1 : Int).toNat = 1 from rfl, Nat.reduceMul, Nat.reduceEqDiff, Go.Addr.add, ↓reduceIte] at hx431_1); (try simp only [show (1 : Int).toNat = 1 from rfl, Nat.reduceMul, Nat.reduceEqDiff, Go.Addr.add, ↓reduceIte] at hx431_2); (try simp only [show (1 : Int).toNat = 1 from rfl, Nat.reduceMul, Nat.reduceEqDiff, Go.Addr.add, ↓reduceIte] at hx431_3); (try simp only [show (1 : Int).toNat = 1 from rfl, Nat.reduceMul, Nat.reduceEqDiff, Go.Addr.add, ↓reduceIte] at hx431_4); have qi431 : (1 < t425.length) = True := eq_true (by omega); (try rw [show ((1 : Int)).toNat = 1 from rfl] at hx431_0); (try rw [show 1 * 5 = 5 from rfl] at hx431_0); (try rw [show ((1 : Int)).toNat = 1 from rfl] at hx431_1); (try rw [show 1 * 5 = 5 from rfl] at hx431_1); (try rw [show ((1 : Int)).toNat = 1 from rfl] at hx431_2); (try rw [show 1 * 5 = 5 from rfl] at hx431_2); (try rw [show ((1 : Int)).toNat = 1 from rfl] at hx431_3); (try rw [show 1 * 5 = 5 from rfl] at hx431_3); (try rw [show ((1 : Int)).toNat = 1 from rfl] at hx431_4); (try rw [show 1 * 5 = 5 from rfl] at hx431_4); have hn431_0 : ad431.block ≠ gb430 := Kd.own_blk (Kd.R_ne HO427.out BK430.out (by decide)); have hn431_1 : ad431.block ≠ gb430 := Kd.own_blk (Kd.R_ne HO427.out BK430.out (by decide)); replace hx431_0 := (cell_far (p := ⟨gb430, 0, none⟩) (by first | (rw [add_block]; exact hn431_0) | (show (Addr.add _ _).block ≠ _; rw [add_block]; exact hn431_0) | exact hn431_0) (.int .i64 t428)).trans hx431_0; replace hx431_1 := (cell_far (p := ⟨gb430, 0, none⟩) (by first | (rw [add_block]; exact hn431_0) | (show (Addr.add _ _).block ≠ _; rw [add_block]; exact hn431_0) | exact hn431_0) (.int .i64 t428)).trans hx431_1; replace hx431_2 := (cell_far (p := ⟨gb430, 0, none⟩) (by first | (rw [add_block]; exact hn431_0) | (show (Addr.add _ _).block ≠ _; rw [add_block]; exact hn431_0) | exact hn431_0) (.int .i64 t428)).trans hx431_2; replace hx431_3 := (cell_far (p := ⟨gb430, 0, none⟩) (by first | (rw [add_block]; exact hn431_0) | (show (Addr.add _ _).block ≠ _; rw [add_block]; exact hn431_0) | exact hn431_0) (.int .i64 t428)).trans hx431_3; replace hx431_4 := (cell_far (p := ⟨gb430, 0, none⟩) (by first | (rw [add_block]; exact hn431_0) | (show (Addr.add _ _).block ≠ _; rw [add_block]; exact hn431_0) | exact hn431_0) (.int .i64 t428)).trans hx431_4; replace hx431_0 := (cell_far (p := ⟨gb430, 1, none⟩) (by first | (rw [add_block]; exact hn431_1) | (show (Addr.add _ _).block ≠ _; rw [add_block]; exact hn431_1) | exact hn431_1) (.int .i64 t429)).trans hx431_0; replace hx431_1 := (cell_far (p := ⟨gb430, 1, none⟩) (by first | (rw [add_block]; exact hn431_1) | (show (Addr.add _ _).block ≠ _; rw [add_block]; exact hn431_1) | exact hn431_1) (.int .i64 t429)).trans hx431_1; replace hx431_2 := (cell_far (p := ⟨gb430, 1, none⟩) (by first | (rw [add_block]; exact hn431_1) | (show (Addr.add _ _).block ≠ _; rw [add_block]; exact hn431_1) | exact hn431_1) (.int .i64 t429)).trans hx431_2; replace hx431_3 := (cell_far (p := ⟨gb430, 1, none⟩) (by first | (rw [add_block]; exact hn431_1) | (show (Addr.add _ _).block ≠ _; rw [add_block]; exact hn431_1) | exact hn431_1) (.int .i64 t429)).trans hx431_3; replace hx431_4 := (cell_far (p := ⟨gb430, 1, none⟩) (by first | (rw [add_block]; exact hn431_1) | (show (Addr.add _ _).block ≠ _; rw [add_block]; exact hn431_1) | exact hn431_1) (.int .i64 t429)).trans hx431_4; clear hn431_0; clear hn431_1; replace p431 := eq_true p431; replace q431 := eq_true q431; have p432 : 0 ≤ (4 : Int) := (by omega); have q432 : 4 < (t425.length : Int) := of_decide_eq_true (by first | (with_reducible assumption) | assumption); obtain ⟨ad432, e432, hx432_0, hx432_1, hx432_2, hx432_3, hx432_4⟩ := at_T30 (Kd.R_reads' HO427.out).2.2 4 p432 q432; obtain rfl : ad431 = ad432 := (by injection e432); (try simp only [show (4 : Int).toNat = 4 from rfl, Nat.reduceMul, Nat.reduceEqDiff, Go.Addr.add, ↓reduceIte] at hx432_0); (try simp only [show (4 : Int).toNat = 4 from rfl, Nat.reduceMul, Nat.reduceEqDiff, Go.Addr.add, ↓reduceIte] at hx432_1); (try simp only [show (4 : Int).toNat = 4 from rfl, Nat.reduceMul, Nat.reduceEqDiff, Go.Addr.add, ↓reduceIte] at hx432_2); (try simp only [show (4 : Int).toNat = 4 from rfl, Nat.reduceMul, Nat.reduceEqDiff, Go.Addr.add, ↓reduceIte] at hx432_3); (try simp only [show (4 : Int).toNat = 4 from rfl, Nat.reduceMul, Nat.reduceEqDiff, Go.Addr.add, ↓reduceIte] at hx432_4); have qi432 : (4 < t425.length) = True := eq_true (by omega); (try rw [show ((4 : Int)).toNat = 4 from rfl] at hx432_0); (try rw [show 4 * 5 = 20 from rfl] at hx432_0); (try rw [show ((4 : Int)).toNat = 4 from rfl] at hx432_1); (try rw [show 4 * 5 = 20 from rfl] at hx432_1); (try rw [show ((4 : Int)).toNat = 4 from rfl] at hx432_2); (try rw [show 4 * 5 = 20 from rfl] at hx432_2); (try rw [show ((4 : Int)).toNat = 4 from rfl] at hx432_3); (try rw [show 4 * 5 = 20 from rfl] at hx432_3); (try rw [show ((4 : Int)).toNat = 4 from rfl] at hx432_4); (try rw [show 4 * 5 = 20 from rfl] at hx432_4); have hn432_0 : ad431.block ≠ gb430 := Kd.own_blk (Kd.R_ne HO427.out BK430.out (by decide)); have hn432_1 : ad431.block ≠ gb430 := Kd.own_blk (Kd.R_ne HO427.out BK430.out (by decide)); replace hx432_0 := (cell_far (p := ⟨gb430, 0, none⟩) (by first | (rw [add_block]; exact hn432_0) | (show (Addr.add _ _).block ≠ _; rw [add_block]; exact hn432_0) | exact hn432_0) (.int .i64 t428)).trans hx432_0; replace hx432_1 := (cell_far (p := ⟨gb430, 0, none⟩) (by first | (rw [add_block]; exact hn432_0) | (show (Addr.add _ _).block ≠ _; rw [add_block]; exact hn432_0) | exact hn432_0) (.int .i64 t428)).trans hx432_1; replace hx432_2 := (cell_far (p := ⟨gb430, 0, none⟩) (by first | (rw [add_block]; exact hn432_0) | (show (Addr.add _ _).block ≠ _; rw [add_block]; exact hn432_0) | exact hn432_0) (.int .i64 t428)).trans hx432_2; replace hx432_3 := (cell_far (p := ⟨gb430, 0, none⟩) (by first | (rw [add_block]; exact hn432_0) | (show (Addr.add _ _).block ≠ _; rw [add_block]; exact hn432_0) | exact hn432_0) (.int .i64 t428)).trans hx432_3; replace hx432_4 := (cell_far (p := ⟨gb430, 0, none⟩) (by first | (rw [add_block]; exact hn432_0) | (show (Addr.add _ _).block ≠ _; rw [add_block]; exact hn432_0) | exact hn432_0) (.int .i64 t428)).trans hx432_4; replace hx432_0 := (cell_far (p := ⟨gb430, 1, none⟩) (by first | (rw [add_block]; exact hn432_1) | (show (Addr.add _ _).block ≠ _; rw [add_block]; exact hn432_1) | exact hn432_1) (.int .i64 t429)).trans hx432_0; replace hx432_1 := (cell_far (p := ⟨gb430, 1, none⟩) (by first | (rw [add_block]; exact hn432_1) | (show (Addr.add _ _).block ≠ _; rw [add_block]; exact hn432_1) | exact hn432_1) (.int .i64 t429)).trans hx432_1; replace hx432_2 := (cell_far (p := ⟨gb430, 1, none⟩) (by first | (rw [add_block]; exact hn432_1) | (show (Addr.add _ _).block ≠ _; rw [add_block]; exact hn432_1) | exact hn432_1) (.int .i64 t429)).trans hx432_2; replace hx432_3 := (cell_far (p := ⟨gb430, 1, none⟩) (by first | (rw [add_block]; exact hn432_1) | (show (Addr.add _ _).block ≠ _; rw [add_block]; exact hn432_1) | exact hn432_1) (.int .i64 t429)).trans hx432_3; replace hx432_4 := (cell_far (p := ⟨gb430, 1, none⟩) (by first | (rw [add_block]; exact hn432_1) | (show (Addr.add _ _).block ≠ _; rw [add_block]; exact hn432_1) | exact hn432_1) (.int .i64 t429)).trans hx432_4; clear hn432_0; clear hn432_1; replace p432 := eq_true p432; replace q432 := eq_true q432; have p433 : 0 ≤ (6 : Int) := (by omega); have q433 : 6 < (t425.length : Int) := of_decide_eq_true (by first | (with_reducible assumption) | assumption); obtain ⟨ad433, e433, hx433_0, hx433_1, hx433_2, hx433_3, hx433_4⟩ := at_T30 (Kd.R_reads' HO427.out).2.2 6 p433 q433; obtain rfl : ad431 = ad433 := (by injection e433); (try simp only [show (6 : Int).toNat = 6 from rfl, Nat.reduceMul, Nat.reduceEqDiff, Go.Addr.add, ↓reduceIte] at hx433_0); (try simp only [show (6 : Int).toNat = 6 from rfl, Nat.reduceMul, Nat.reduceEqDiff, Go.Addr.add, ↓reduceIte] at hx433_1); (try simp only [show (6 : Int).toNat = 6 from rfl, Nat.reduceMul, Nat.reduceEqDiff, Go.Addr.add, ↓reduceIte] at hx433_2); (try simp only [show (6 : Int).toNat = 6 from rfl, Nat.reduceMul, Nat.reduceEqDiff, Go.Addr.add, ↓reduceIte] at hx433_3); (try simp only [show (6 : Int).toNat = 6 from rfl, Nat.reduceMul, Nat.reduceEqDiff, Go.Addr.add, ↓reduceIte] at hx433_4); have qi433 : (6 < t425.length) = True := eq_true (by omega); (try rw [show ((6 : Int)).toNat = 6 from rfl] at hx433_0); (try rw [show 6 * 5 = 30 from rfl] at hx433_0); (try rw [show ((6 : Int)).toNat = 6 from rfl] at hx433_1); (try rw [show 6 * 5 = 30 from rfl] at hx433_1); (try rw [show ((6 : Int)).toNat = 6 from rfl] at hx433_2); (try rw [show 6 * 5 = 30 from rfl] at hx433_2); (try rw [show ((6 : Int)).toNat = 6 from rfl] at hx433_3); (try rw [show 6 * 5 = 30 from rfl] at hx433_3); (try rw [show ((6 : Int)).toNat = 6 from rfl] at hx433_4); (try rw [show 6 * 5 = 30 from rfl] at hx433_4); have hn433_0 : ad431.block ≠ gb430 := Kd.own_blk (Kd.R_ne HO427.out BK430.out (by decide)); have hn433_1 : ad431.block ≠ gb430 := Kd.own_blk (Kd.R_ne HO427.out BK430.out (by decide)); replace hx433_0 := (cell_far (p := ⟨gb430, 0, none⟩) (by first | (rw [add_block]; exact hn433_0) | (show (Addr.add _ _).block ≠ _; rw [add_block]; exact hn433_0) | exact hn433_0) (.int .i64 t428)).trans hx433_0; replace hx433_1 := (cell_far (p := ⟨gb430, 0, none⟩) (by first | (rw [add_block]; exact hn433_0) | (show (Addr.add _ _).block ≠ _; rw [add_block]; exact hn433_0) | exact hn433_0) (.int .i64 t428)).trans hx433_1; replace hx433_2 := (cell_far (p := ⟨gb430, 0, none⟩) (by first | (rw [add_block]; exact hn433_0) | (show (Addr.add _ _).block ≠ _; rw [add_block]; exact hn433_0) | exact hn433_0) (.int .i64 t428)).trans hx433_2; replace hx433_3 := (cell_far (p := ⟨gb430, 0, none⟩) (by first | (rw [add_block]; exact hn433_0) | (show (Addr.add _ _).block ≠ _; rw [add_block]; exact hn433_0) | exact hn433_0) (.int .i64 t428)).trans hx433_3; replace hx433_4 := (cell_far (p := ⟨gb430, 0, none⟩) (by first | (rw [add_block]; exact hn433_0) | (show (Addr.add _ _).block ≠ _; rw [add_block]; exact hn433_0) | exact hn433_0) (.int .i64 t428)).trans hx433_4; replace hx433_0 := (cell_far (p := ⟨gb430, 1, none⟩) (by first | (rw [add_block]; exact hn433_1) | (show (Addr.add _ _).block ≠ _; rw [add_block]; exact hn433_1) | exact hn433_1) (.int .i64 t429)).trans hx433_0; replace hx433_1 := (cell_far (p := ⟨gb430, 1, none⟩) (by first | (rw [add_block]; exact hn433_1) | (show (Addr.add _ _).block ≠ _; rw [add_block]; exact hn433_1) | exact hn433_1) (.int .i64 t429)).trans hx433_1; replace hx433_2 := (cell_far (p := ⟨gb430, 1, none⟩) (by first | (rw [add_block]; exact hn433_1) | (show (Addr.add _ _).block ≠ _; rw [add_block]; exact hn433_1) | exact hn433_1) (.int .i64 t429)).trans hx433_2; replace hx433_3 := (cell_far (p := ⟨gb430, 1, none⟩) (by first | (rw [add_block]; exact hn433_1) | (show (Addr.add _ _).block ≠ _; rw [add_block]; exact hn433_1) | exact hn433_1) (.int .i64 t429)).trans hx433_3; replace hx433_4 := (cell_far (p := ⟨gb430, 1, none⟩) (by first | (rw [add_block]; exact hn433_1) | (show (Addr.add _ _).block ≠ _; rw [add_block]; exact hn433_1) | exact hn433_1) (.int .i64 t429)).trans hx433_4; clear hn433_0; clear hn433_1; replace p433 := eq_true p433; replace q433 := eq_true q433))
        go_ret
        exact ⟨by first | rfl | (simp [errW_none, errW_some] <;> rfl) | (simp [*, errW_none, errW_some] <;> rfl), by repeat (first | (with_reducible first | exact HB.out | apply below_alloc | apply pw_below_drewN | apply below_drew1 | refine below_set ?_ GE430.out) | exact HB.out)⟩
      ·rw [if_neg c7] at H
       exact absurd H (by simp)
     ·rw [if_neg c6] at H
      have c6b0 : (((rd_T30 t425 4).f0) == 3 && (((rd_T30 t425 4).f1) == 7 && ((((rd_T30 t425 4).f2).toList) == ([46, 46] : List UInt8) && (((rd_T30 t425 4).f3) == 0 && (((rd_T30 t425 4).f4) == 0))))) = false := by simpa using c6
      (try (have c6b1 : decide (((rd_T30 t425 4).f0) = 3 && (((rd_T30 t425 4).f1) == 7 && ((((rd_T30 t425 4).f2).toList) == ([46, 46] : List UInt8) && (((rd_T30 t425 4).f3) == 0 && (((rd_T30 t425 4).f4) == 0))))) = false := by simpa using c6))
      (try (have c6b2 : (((rd_T30 t425 4).f0) == 3 && (((rd_T30 t425 4).f1) == 7 && ((((rd_T30 t425 4).f2).toList) == ([46, 46] : List UInt8) && (((rd_T30 t425 4).f3) == 0 && (((rd_T30 t425 4).f4) == 0))))) = false := by simpa using c6))
      (try (have c6b3 : ¬ (((rd_T30 t425 4).f0) = 3 && (((rd_T30 t425 4).f1) == 7 && ((((rd_T30 t425 4).f2).toList) == ([46, 46] : List UInt8) && (((rd_T30 t425 4).f3) == 0 && (((rd_T30 t425 4).f4) == 0))))) := by simpa using c6))
      clear c6
      obtain rfl := Option.some.inj H
      go_enter Tryd.func12, Tryd.ntmps12
      go_wp2_with (first | ((with_reducible refine gate_callee (f := 9) rfl ?_); refine goesL_ (some 4) rfl rfl Tryd.func9 (by kernel_rfl) rfl #[.string (⟨#[108, 101, 116, 32, 120, 61, 49, 46, 46, 50, 32, 35, 32, 121]⟩ : ByteArray)] rfl (by (try simp only [List.map_toArray, List.map_cons, List.map_nil]); first | done | rfl | (simp only [List.length_drop, List.length_take]; rfl)) ?_; (with_reducible refine (lex_All.calls (hG := (by first | exact Glob.at_ HG0.out (by repeat (first | (with_reducible first | exact HB.out | apply below_alloc | apply pw_below_drewN | apply below_drew1 | refine below_set ?_ GE430.out) | exact HB.out)) | exact Glob.at_ HG0.out (Below.refl _ _))) (⟨#[108, 101, 116, 32, 120, 61, 49, 46, 46, 50, 32, 35, 32, 121]⟩ : ByteArray) t425 t428 t429 _ A1.out).mono ?_); rintro e w22 ⟨v426, rfl, ho0, hb⟩; refine ⟨_, rfl, ?_⟩; have n0_ := Aside0.mk (Kd.R_lower ho0 (below_size (by repeat (first | (with_reducible first | exact HB.out | apply below_alloc | apply pw_below_drewN | apply below_drew1) | exact HB.out)))); have n1_ := Aside0.mk (below_step (by repeat (first | (with_reducible first | exact HB.out | apply below_alloc | apply pw_below_drewN | apply below_drew1) | exact HB.out)) hb); clear HB; have HO427 := n0_; have HB := n1_; clear n0_ n1_; (try clear hb); (try clear hb2); (try clear hk); (try clear hi); (try clear ho0)) | ((with_reducible refine gate_dst (N := 2) rfl ?_); refine box_event ?hg (N := 2) ?hd (cs := #[.int .i64 0, .int .i64 0]) (t := 25) ?hr ?_; (case hd => rfl); (case hg => rfl); (case hr => first | (go_simp; done) | (go_simp; rfl)); intro gb430 hg w23 hbox hb; have n0_ := Aside0.mk (Kd.R_below (by (with_reducible repeat (first | apply Kd.R_alloc | apply Kd.R_drewN | apply Kd.R_drew)); exact HO427.out) hb); have n1_ := Aside0.mk (below_step (by repeat (first | (with_reducible first | exact HB.out | apply below_alloc | apply pw_below_drewN | apply below_drew1) | exact HB.out)) hb); have n2_ := Aside0.mk (hbox); have n3_ := Aside0.mk ((by rw [hg]; exact (below_size (by repeat (first | (with_reducible first | exact HB.out | apply below_alloc | apply pw_below_drewN | apply below_drew1) | exact HB.out))) : w.heap.size ≤ gb430)); have n4_ := Aside0.mk ((by rw [hg]; exact (below_size (by repeat (first | (with_reducible first | exact HB.out | apply below_alloc | apply pw_below_drewN | apply below_drew1) | exact HB.out))) : w.heap.size ≤ gb430)); clear HO427; clear HB; have HO427 := n0_; have HB := n1_; have BK430 := n2_; have GW430 := n3_; have GE430 := n4_; clear n0_ n1_ n2_ n3_ n4_; clear hb hbox hg; have hcz24_0 : w23.cell? ⟨gb430, 0, none⟩ = some (.int .i64 0) := (blk_cell BK430.out 0).trans rfl; have hcz24_1 : w23.cell? ⟨gb430, 1, none⟩ = some (.int .i64 0) := (blk_cell BK430.out 1).trans rfl; have hfz24_0 := blk_frozen BK430.out 0; have hfz24_1 := blk_frozen BK430.out 1; obtain ⟨Ao25, co25, eo25⟩ := Kd.R_slice HO427.out; subst eo25; have p431 : 0 ≤ (1 : Int) := (by omega); have q431 : 1 < (t425.length : Int) := of_decide_eq_true (by first | (with_reducible assumption) | assumption); obtain ⟨ad431, e431, hx431_0, hx431_1, hx431_2, hx431_3, hx431_4⟩ := at_T30 (Kd.R_reads' HO427.out).2.2 1 p431 q431; cases e431; (try simp only [show (1 : Int).toNat = 1 from rfl, Nat.reduceMul, Nat.reduceEqDiff, Go.Addr.add, ↓reduceIte] at hx431_0); (try simp only [show (1 : Int).toNat = 1 from rfl, Nat.reduceMul, Nat.reduceEqDiff, Go.Addr.add, ↓reduceIte] at hx431_1); (try simp only [show (1 : Int).toNat = 1 from rfl, Nat.reduceMul, Nat.reduceEqDiff, Go.Addr.add, ↓reduceIte] at hx431_2); (try simp only [show (1 : Int).toNat = 1 from rfl, Nat.reduceMul, Nat.reduceEqDiff, Go.Addr.add, ↓reduceIte] at hx431_3); (try simp only [show (1 : Int).toNat = 1 from rfl, Nat.reduceMul, Nat.reduceEqDiff, Go.Addr.add, ↓reduceIte] at hx431_4); have qi431 : (1 < t425.length) = True := eq_true (by omega); (try rw [show ((1 : Int)).toNat = 1 from rfl] at hx431_0); (try rw [show 1 * 5 = 5 from rfl] at hx431_0); (try rw [show ((1 : Int)).toNat = 1 from rfl] at hx431_1); (try rw [show 1 * 5 = 5 from rfl] at hx431_1); (try rw [show ((1 : Int)).toNat = 1 from rfl] at hx431_2); (try rw [show 1 * 5 = 5 from rfl] at hx431_2); (try rw [show ((1 : Int)).toNat = 1 from rfl] at hx431_3); (try rw [show 1 * 5 = 5 from rfl] at hx431_3); (try rw [show ((1 : Int)).toNat = 1 from rfl] at hx431_4); (try rw [show 1 * 5 = 5 from rfl] at hx431_4); have hn431_0 : ad431.block ≠ gb430 := Kd.own_blk (Kd.R_ne HO427.out BK430.out (by decide)); have hn431_1 : ad431.block ≠ gb430 := Kd.own_blk (Kd.R_ne HO427.out BK430.out (by decide)); replace hx431_0 := (cell_far (p := ⟨gb430, 0, none⟩) (by first | (rw [add_block]; exact hn431_0) | (show (Addr.add _ _).block ≠ _; rw [add_block]; exact hn431_0) | exact hn431_0) (.int .i64 t428)).trans hx431_0; replace hx431_1 := (cell_far (p := ⟨gb430, 0, none⟩) (by first | (rw [add_block]; exact hn431_0) | (show (Addr.add _ _).block ≠ _; rw [add_block]; exact hn431_0) | exact hn431_0) (.int .i64 t428)).trans hx431_1; replace hx431_2 := (cell_far (p := ⟨gb430, 0, none⟩) (by first | (rw [add_block]; exact hn431_0) | (show (Addr.add _ _).block ≠ _; rw [add_block]; exact hn431_0) | exact hn431_0) (.int .i64 t428)).trans hx431_2; replace hx431_3 := (cell_far (p := ⟨gb430, 0, none⟩) (by first | (rw [add_block]; exact hn431_0) | (show (Addr.add _ _).block ≠ _; rw [add_block]; exact hn431_0) | exact hn431_0) (.int .i64 t428)).trans hx431_3; replace hx431_4 := (cell_far (p := ⟨gb430, 0, none⟩) (by first | (rw [add_block]; exact hn431_0) | (show (Addr.add _ _).block ≠ _; rw [add_block]; exact hn431_0) | exact hn431_0) (.int .i64 t428)).trans hx431_4; replace hx431_0 := (cell_far (p := ⟨gb430, 1, none⟩) (by first | (rw [add_block]; exact hn431_1) | (show (Addr.add _ _).block ≠ _; rw [add_block]; exact hn431_1) | exact hn431_1) (.int .i64 t429)).trans hx431_0; replace hx431_1 := (cell_far (p := ⟨gb430, 1, none⟩) (by first | (rw [add_block]; exact hn431_1) | (show (Addr.add _ _).block ≠ _; rw [add_block]; exact hn431_1) | exact hn431_1) (.int .i64 t429)).trans hx431_1; replace hx431_2 := (cell_far (p := ⟨gb430, 1, none⟩) (by first | (rw [add_block]; exact hn431_1) | (show (Addr.add _ _).block ≠ _; rw [add_block]; exact hn431_1) | exact hn431_1) (.int .i64 t429)).trans hx431_2; replace hx431_3 := (cell_far (p := ⟨gb430, 1, none⟩) (by first | (rw [add_block]; exact hn431_1) | (show (Addr.add _ _).block ≠ _; rw [add_block]; exact hn431_1) | exact hn431_1) (.int .i64 t429)).trans hx431_3; replace hx431_4 := (cell_far (p := ⟨gb430, 1, none⟩) (by first | (rw [add_block]; exact hn431_1) | (show (Addr.add _ _).block ≠ _; rw [add_block]; exact hn431_1) | exact hn431_1) (.int .i64 t429)).trans hx431_4; clear hn431_0; clear hn431_1; replace p431 := eq_true p431; replace q431 := eq_true q431; have p432 : 0 ≤ (4 : Int) := (by omega); have q432 : 4 < (t425.length : Int) := of_decide_eq_true (by first | (with_reducible assumption) | assumption); obtain ⟨ad432, e432, hx432_0, hx432_1, hx432_2, hx432_3, hx432_4⟩ := at_T30 (Kd.R_reads' HO427.out).2.2 4 p432 q432; obtain rfl : ad431 = ad432 := (by injection e432); (try simp only [show (4 : Int).toNat = 4 from rfl, Nat.reduceMul, Nat.reduceEqDiff, Go.Addr.add, ↓reduceIte] at hx432_0); (try simp only [show (4 : Int).toNat = 4 from rfl, Nat.reduceMul, Nat.reduceEqDiff, Go.Addr.add, ↓reduceIte] at hx432_1); (try simp only [show (4 : Int).toNat = 4 from rfl, Nat.reduceMul, Nat.reduceEqDiff, Go.Addr.add, ↓reduceIte] at hx432_2); (try simp only [show (4 : Int).toNat = 4 from rfl, Nat.reduceMul, Nat.reduceEqDiff, Go.Addr.add, ↓reduceIte] at hx432_3); (try simp only [show (4 : Int).toNat = 4 from rfl, Nat.reduceMul, Nat.reduceEqDiff, Go.Addr.add, ↓reduceIte] at hx432_4); have qi432 : (4 < t425.length) = True := eq_true (by omega); (try rw [show ((4 : Int)).toNat = 4 from rfl] at hx432_0); (try rw [show 4 * 5 = 20 from rfl] at hx432_0); (try rw [show ((4 : Int)).toNat = 4 from rfl] at hx432_1); (try rw [show 4 * 5 = 20 from rfl] at hx432_1); (try rw [show ((4 : Int)).toNat = 4 from rfl] at hx432_2); (try rw [show 4 * 5 = 20 from rfl] at hx432_2); (try rw [show ((4 : Int)).toNat = 4 from rfl] at hx432_3); (try rw [show 4 * 5 = 20 from rfl] at hx432_3); (try rw [show ((4 : Int)).toNat = 4 from rfl] at hx432_4); (try rw [show 4 * 5 = 20 from rfl] at hx432_4); have hn432_0 : ad431.block ≠ gb430 := Kd.own_blk (Kd.R_ne HO427.out BK430.out (by decide)); have hn432_1 : ad431.block ≠ gb430 := Kd.own_blk (Kd.R_ne HO427.out BK430.out (by decide)); replace hx432_0 := (cell_far (p := ⟨gb430, 0, none⟩) (by first | (rw [add_block]; exact hn432_0) | (show (Addr.add _ _).block ≠ _; rw [add_block]; exact hn432_0) | exact hn432_0) (.int .i64 t428)).trans hx432_0; replace hx432_1 := (cell_far (p := ⟨gb430, 0, none⟩) (by first | (rw [add_block]; exact hn432_0) | (show (Addr.add _ _).block ≠ _; rw [add_block]; exact hn432_0) | exact hn432_0) (.int .i64 t428)).trans hx432_1; replace hx432_2 := (cell_far (p := ⟨gb430, 0, none⟩) (by first | (rw [add_block]; exact hn432_0) | (show (Addr.add _ _).block ≠ _; rw [add_block]; exact hn432_0) | exact hn432_0) (.int .i64 t428)).trans hx432_2; replace hx432_3 := (cell_far (p := ⟨gb430, 0, none⟩) (by first | (rw [add_block]; exact hn432_0) | (show (Addr.add _ _).block ≠ _; rw [add_block]; exact hn432_0) | exact hn432_0) (.int .i64 t428)).trans hx432_3; replace hx432_4 := (cell_far (p := ⟨gb430, 0, none⟩) (by first | (rw [add_block]; exact hn432_0) | (show (Addr.add _ _).block ≠ _; rw [add_block]; exact hn432_0) | exact hn432_0) (.int .i64 t428)).trans hx432_4; replace hx432_0 := (cell_far (p := ⟨gb430, 1, none⟩) (by first | (rw [add_block]; exact hn432_1) | (show (Addr.add _ _).block ≠ _; rw [add_block]; exact hn432_1) | exact hn432_1) (.int .i64 t429)).trans hx432_0; replace hx432_1 := (cell_far (p := ⟨gb430, 1, none⟩) (by first | (rw [add_block]; exact hn432_1) | (show (Addr.add _ _).block ≠ _; rw [add_block]; exact hn432_1) | exact hn432_1) (.int .i64 t429)).trans hx432_1; replace hx432_2 := (cell_far (p := ⟨gb430, 1, none⟩) (by first | (rw [add_block]; exact hn432_1) | (show (Addr.add _ _).block ≠ _; rw [add_block]; exact hn432_1) | exact hn432_1) (.int .i64 t429)).trans hx432_2; replace hx432_3 := (cell_far (p := ⟨gb430, 1, none⟩) (by first | (rw [add_block]; exact hn432_1) | (show (Addr.add _ _).block ≠ _; rw [add_block]; exact hn432_1) | exact hn432_1) (.int .i64 t429)).trans hx432_3; replace hx432_4 := (cell_far (p := ⟨gb430, 1, none⟩) (by first | (rw [add_block]; exact hn432_1) | (show (Addr.add _ _).block ≠ _; rw [add_block]; exact hn432_1) | exact hn432_1) (.int .i64 t429)).trans hx432_4; clear hn432_0; clear hn432_1; replace p432 := eq_true p432; replace q432 := eq_true q432))
      go_ret
      exact ⟨by first | rfl | (simp [errW_none, errW_some] <;> rfl) | (simp [*, errW_none, errW_some] <;> rfl), by repeat (first | (with_reducible first | exact HB.out | apply below_alloc | apply pw_below_drewN | apply below_drew1 | refine below_set ?_ GE430.out) | exact HB.out)⟩
    ·rw [if_neg c5] at H
     exact absurd H (by simp)
   ·rw [if_neg c4] at H
    have c4b0 : (((rd_T30 t425 1).f0) == 1 && (((rd_T30 t425 1).f1) == 4 && ((((rd_T30 t425 1).f2).toList) == ([120] : List UInt8) && (((rd_T30 t425 1).f3) == 0 && (((rd_T30 t425 1).f4) == 0))))) = false := by simpa using c4
    (try (have c4b1 : decide (((rd_T30 t425 1).f0) = 1 && (((rd_T30 t425 1).f1) == 4 && ((((rd_T30 t425 1).f2).toList) == ([120] : List UInt8) && (((rd_T30 t425 1).f3) == 0 && (((rd_T30 t425 1).f4) == 0))))) = false := by simpa using c4))
    (try (have c4b2 : (((rd_T30 t425 1).f0) == 1 && (((rd_T30 t425 1).f1) == 4 && ((((rd_T30 t425 1).f2).toList) == ([120] : List UInt8) && (((rd_T30 t425 1).f3) == 0 && (((rd_T30 t425 1).f4) == 0))))) = false := by simpa using c4))
    (try (have c4b3 : ¬ (((rd_T30 t425 1).f0) = 1 && (((rd_T30 t425 1).f1) == 4 && ((((rd_T30 t425 1).f2).toList) == ([120] : List UInt8) && (((rd_T30 t425 1).f3) == 0 && (((rd_T30 t425 1).f4) == 0))))) := by simpa using c4))
    clear c4
    obtain rfl := Option.some.inj H
    go_enter Tryd.func12, Tryd.ntmps12
    go_wp2_with (first | ((with_reducible refine gate_callee (f := 9) rfl ?_); refine goesL_ (some 4) rfl rfl Tryd.func9 (by kernel_rfl) rfl #[.string (⟨#[108, 101, 116, 32, 120, 61, 49, 46, 46, 50, 32, 35, 32, 121]⟩ : ByteArray)] rfl (by (try simp only [List.map_toArray, List.map_cons, List.map_nil]); first | done | rfl | (simp only [List.length_drop, List.length_take]; rfl)) ?_; (with_reducible refine (lex_All.calls (hG := (by first | exact Glob.at_ HG0.out (by repeat (first | (with_reducible first | exact HB.out | apply below_alloc | apply pw_below_drewN | apply below_drew1 | refine below_set ?_ GE430.out) | exact HB.out)) | exact Glob.at_ HG0.out (Below.refl _ _))) (⟨#[108, 101, 116, 32, 120, 61, 49, 46, 46, 50, 32, 35, 32, 121]⟩ : ByteArray) t425 t428 t429 _ A1.out).mono ?_); rintro e w26 ⟨v426, rfl, ho0, hb⟩; refine ⟨_, rfl, ?_⟩; have n0_ := Aside0.mk (Kd.R_lower ho0 (below_size (by repeat (first | (with_reducible first | exact HB.out | apply below_alloc | apply pw_below_drewN | apply below_drew1) | exact HB.out)))); have n1_ := Aside0.mk (below_step (by repeat (first | (with_reducible first | exact HB.out | apply below_alloc | apply pw_below_drewN | apply below_drew1) | exact HB.out)) hb); clear HB; have HO427 := n0_; have HB := n1_; clear n0_ n1_; (try clear hb); (try clear hb2); (try clear hk); (try clear hi); (try clear ho0)) | ((with_reducible refine gate_dst (N := 2) rfl ?_); refine box_event ?hg (N := 2) ?hd (cs := #[.int .i64 0, .int .i64 0]) (t := 25) ?hr ?_; (case hd => rfl); (case hg => rfl); (case hr => first | (go_simp; done) | (go_simp; rfl)); intro gb430 hg w27 hbox hb; have n0_ := Aside0.mk (Kd.R_below (by (with_reducible repeat (first | apply Kd.R_alloc | apply Kd.R_drewN | apply Kd.R_drew)); exact HO427.out) hb); have n1_ := Aside0.mk (below_step (by repeat (first | (with_reducible first | exact HB.out | apply below_alloc | apply pw_below_drewN | apply below_drew1) | exact HB.out)) hb); have n2_ := Aside0.mk (hbox); have n3_ := Aside0.mk ((by rw [hg]; exact (below_size (by repeat (first | (with_reducible first | exact HB.out | apply below_alloc | apply pw_below_drewN | apply below_drew1) | exact HB.out))) : w.heap.size ≤ gb430)); have n4_ := Aside0.mk ((by rw [hg]; exact (below_size (by repeat (first | (with_reducible first | exact HB.out | apply below_alloc | apply pw_below_drewN | apply below_drew1) | exact HB.out))) : w.heap.size ≤ gb430)); clear HO427; clear HB; have HO427 := n0_; have HB := n1_; have BK430 := n2_; have GW430 := n3_; have GE430 := n4_; clear n0_ n1_ n2_ n3_ n4_; clear hb hbox hg; have hcz28_0 : w27.cell? ⟨gb430, 0, none⟩ = some (.int .i64 0) := (blk_cell BK430.out 0).trans rfl; have hcz28_1 : w27.cell? ⟨gb430, 1, none⟩ = some (.int .i64 0) := (blk_cell BK430.out 1).trans rfl; have hfz28_0 := blk_frozen BK430.out 0; have hfz28_1 := blk_frozen BK430.out 1; obtain ⟨Ao29, co29, eo29⟩ := Kd.R_slice HO427.out; subst eo29; have p431 : 0 ≤ (1 : Int) := (by omega); have q431 : 1 < (t425.length : Int) := of_decide_eq_true (by first | (with_reducible assumption) | assumption); obtain ⟨ad431, e431, hx431_0, hx431_1, hx431_2, hx431_3, hx431_4⟩ := at_T30 (Kd.R_reads' HO427.out).2.2 1 p431 q431; cases e431; (try simp only [show (1 : Int).toNat = 1 from rfl, Nat.reduceMul, Nat.reduceEqDiff, Go.Addr.add, ↓reduceIte] at hx431_0); (try simp only [show (1 : Int).toNat = 1 from rfl, Nat.reduceMul, Nat.reduceEqDiff, Go.Addr.add, ↓reduceIte] at hx431_1); (try simp only [show (1 : Int).toNat = 1 from rfl, Nat.reduceMul, Nat.reduceEqDiff, Go.Addr.add, ↓reduceIte] at hx431_2); (try simp only [show (1 : Int).toNat = 1 from rfl, Nat.reduceMul, Nat.reduceEqDiff, Go.Addr.add, ↓reduceIte] at hx431_3); (try simp only [show (1 : Int).toNat = 1 from rfl, Nat.reduceMul, Nat.reduceEqDiff, Go.Addr.add, ↓reduceIte] at hx431_4); have qi431 : (1 < t425.length) = True := eq_true (by omega); (try rw [show ((1 : Int)).toNat = 1 from rfl] at hx431_0); (try rw [show 1 * 5 = 5 from rfl] at hx431_0); (try rw [show ((1 : Int)).toNat = 1 from rfl] at hx431_1); (try rw [show 1 * 5 = 5 from rfl] at hx431_1); (try rw [show ((1 : Int)).toNat = 1 from rfl] at hx431_2); (try rw [show 1 * 5 = 5 from rfl] at hx431_2); (try rw [show ((1 : Int)).toNat = 1 from rfl] at hx431_3); (try rw [show 1 * 5 = 5 from rfl] at hx431_3); (try rw [show ((1 : Int)).toNat = 1 from rfl] at hx431_4); (try rw [show 1 * 5 = 5 from rfl] at hx431_4); have hn431_0 : ad431.block ≠ gb430 := Kd.own_blk (Kd.R_ne HO427.out BK430.out (by decide)); have hn431_1 : ad431.block ≠ gb430 := Kd.own_blk (Kd.R_ne HO427.out BK430.out (by decide)); replace hx431_0 := (cell_far (p := ⟨gb430, 0, none⟩) (by first | (rw [add_block]; exact hn431_0) | (show (Addr.add _ _).block ≠ _; rw [add_block]; exact hn431_0) | exact hn431_0) (.int .i64 t428)).trans hx431_0; replace hx431_1 := (cell_far (p := ⟨gb430, 0, none⟩) (by first | (rw [add_block]; exact hn431_0) | (show (Addr.add _ _).block ≠ _; rw [add_block]; exact hn431_0) | exact hn431_0) (.int .i64 t428)).trans hx431_1; replace hx431_2 := (cell_far (p := ⟨gb430, 0, none⟩) (by first | (rw [add_block]; exact hn431_0) | (show (Addr.add _ _).block ≠ _; rw [add_block]; exact hn431_0) | exact hn431_0) (.int .i64 t428)).trans hx431_2; replace hx431_3 := (cell_far (p := ⟨gb430, 0, none⟩) (by first | (rw [add_block]; exact hn431_0) | (show (Addr.add _ _).block ≠ _; rw [add_block]; exact hn431_0) | exact hn431_0) (.int .i64 t428)).trans hx431_3; replace hx431_4 := (cell_far (p := ⟨gb430, 0, none⟩) (by first | (rw [add_block]; exact hn431_0) | (show (Addr.add _ _).block ≠ _; rw [add_block]; exact hn431_0) | exact hn431_0) (.int .i64 t428)).trans hx431_4; replace hx431_0 := (cell_far (p := ⟨gb430, 1, none⟩) (by first | (rw [add_block]; exact hn431_1) | (show (Addr.add _ _).block ≠ _; rw [add_block]; exact hn431_1) | exact hn431_1) (.int .i64 t429)).trans hx431_0; replace hx431_1 := (cell_far (p := ⟨gb430, 1, none⟩) (by first | (rw [add_block]; exact hn431_1) | (show (Addr.add _ _).block ≠ _; rw [add_block]; exact hn431_1) | exact hn431_1) (.int .i64 t429)).trans hx431_1; replace hx431_2 := (cell_far (p := ⟨gb430, 1, none⟩) (by first | (rw [add_block]; exact hn431_1) | (show (Addr.add _ _).block ≠ _; rw [add_block]; exact hn431_1) | exact hn431_1) (.int .i64 t429)).trans hx431_2; replace hx431_3 := (cell_far (p := ⟨gb430, 1, none⟩) (by first | (rw [add_block]; exact hn431_1) | (show (Addr.add _ _).block ≠ _; rw [add_block]; exact hn431_1) | exact hn431_1) (.int .i64 t429)).trans hx431_3; replace hx431_4 := (cell_far (p := ⟨gb430, 1, none⟩) (by first | (rw [add_block]; exact hn431_1) | (show (Addr.add _ _).block ≠ _; rw [add_block]; exact hn431_1) | exact hn431_1) (.int .i64 t429)).trans hx431_4; clear hn431_0; clear hn431_1; replace p431 := eq_true p431; replace q431 := eq_true q431))
    go_ret
    exact ⟨by first | rfl | (simp [errW_none, errW_some] <;> rfl) | (simp [*, errW_none, errW_some] <;> rfl), by repeat (first | (with_reducible first | exact HB.out | apply below_alloc | apply pw_below_drewN | apply below_drew1 | refine below_set ?_ GE430.out) | exact HB.out)⟩
  ·rw [if_neg c3] at H
   exact absurd H (by simp)
 ·rw [if_neg c2] at H
  have c2b0 : ((t425.length : Int) == 7) = false := beq_eq_false_iff_ne.mpr c2
  have c2b1 : ((t425.length : Int) != 7) = true := bne_iff_ne.mpr c2
  obtain rfl := Option.some.inj H
  go_enter Tryd.func12, Tryd.ntmps12
  go_wp2_with (first | ((with_reducible refine gate_callee (f := 9) rfl ?_); refine goesL_ (some 4) rfl rfl Tryd.func9 (by kernel_rfl) rfl #[.string (⟨#[108, 101, 116, 32, 120, 61, 49, 46, 46, 50, 32, 35, 32, 121]⟩ : ByteArray)] rfl (by (try simp only [List.map_toArray, List.map_cons, List.map_nil]); first | done | rfl | (simp only [List.length_drop, List.length_take]; rfl)) ?_; (with_reducible refine (lex_All.calls (hG := (by first | exact Glob.at_ HG0.out (by repeat (first | (with_reducible first | exact HB.out | apply below_alloc | apply pw_below_drewN | apply below_drew1 | refine below_set ?_ GE430.out) | exact HB.out)) | exact Glob.at_ HG0.out (Below.refl _ _))) (⟨#[108, 101, 116, 32, 120, 61, 49, 46, 46, 50, 32, 35, 32, 121]⟩ : ByteArray) t425 t428 t429 _ A1.out).mono ?_); rintro e w30 ⟨v426, rfl, ho0, hb⟩; refine ⟨_, rfl, ?_⟩; have n0_ := Aside0.mk (Kd.R_lower ho0 (below_size (by repeat (first | (with_reducible first | exact HB.out | apply below_alloc | apply pw_below_drewN | apply below_drew1) | exact HB.out)))); have n1_ := Aside0.mk (below_step (by repeat (first | (with_reducible first | exact HB.out | apply below_alloc | apply pw_below_drewN | apply below_drew1) | exact HB.out)) hb); clear HB; have HO427 := n0_; have HB := n1_; clear n0_ n1_; (try clear hb); (try clear hb2); (try clear hk); (try clear hi); (try clear ho0)) | ((with_reducible refine gate_dst (N := 2) rfl ?_); refine box_event ?hg (N := 2) ?hd (cs := #[.int .i64 0, .int .i64 0]) (t := 25) ?hr ?_; (case hd => rfl); (case hg => rfl); (case hr => first | (go_simp; done) | (go_simp; rfl)); intro gb430 hg w31 hbox hb; have n0_ := Aside0.mk (Kd.R_below (by (with_reducible repeat (first | apply Kd.R_alloc | apply Kd.R_drewN | apply Kd.R_drew)); exact HO427.out) hb); have n1_ := Aside0.mk (below_step (by repeat (first | (with_reducible first | exact HB.out | apply below_alloc | apply pw_below_drewN | apply below_drew1) | exact HB.out)) hb); have n2_ := Aside0.mk (hbox); have n3_ := Aside0.mk ((by rw [hg]; exact (below_size (by repeat (first | (with_reducible first | exact HB.out | apply below_alloc | apply pw_below_drewN | apply below_drew1) | exact HB.out))) : w.heap.size ≤ gb430)); have n4_ := Aside0.mk ((by rw [hg]; exact (below_size (by repeat (first | (with_reducible first | exact HB.out | apply below_alloc | apply pw_below_drewN | apply below_drew1) | exact HB.out))) : w.heap.size ≤ gb430)); clear HO427; clear HB; have HO427 := n0_; have HB := n1_; have BK430 := n2_; have GW430 := n3_; have GE430 := n4_; clear n0_ n1_ n2_ n3_ n4_; clear hb hbox hg; have hcz32_0 : w31.cell? ⟨gb430, 0, none⟩ = some (.int .i64 0) := (blk_cell BK430.out 0).trans rfl; have hcz32_1 : w31.cell? ⟨gb430, 1, none⟩ = some (.int .i64 0) := (blk_cell BK430.out 1).trans rfl; have hfz32_0 := blk_frozen BK430.out 0; have hfz32_1 := blk_frozen BK430.out 1; obtain ⟨Ao33, co33, eo33⟩ := Kd.R_slice HO427.out; subst eo33))
  go_ret
  exact ⟨by first | rfl | (simp [errW_none, errW_some] <;> rfl) | (simp [*, errW_none, errW_some] <;> rfl), by repeat (first | (with_reducible first | exact HB.out | apply below_alloc | apply pw_below_drewN | apply below_drew1 | refine below_set ?_ GE430.out) | exact HB.out)⟩
end Go.Proofs.YtjolkombhdibcaaDoor.Print
end
section
namespace Go.Proofs.YtjolkombhdibcaaDoor.Print
open Go.RowKit Go.Proofs.YtjolkombhdibcaaDoor.Given Go.Proofs.YtjolkombhdibcaaDoorW.PrintWords Go.Proofs.YtjolkombhdibcaaDoorW.PrintLast Go.Proofs.YtjolkombhdibcaaDoorW.PrintMore
attribute [local go_sem] max2_int min2_int max_two min_two max_three min_three max_four min_four
set_option linter.unusedVariables false
set_option linter.unusedSimpArgs false
attribute [local go_sem high] eqA25
mutual
def casketlaw11_LexNumbers.j0 : Nat → ByteArray → List (S30) → Bool → Bool → Int → Int → Int → Int → Option (Bool)
 | 0, _, _, _, _, _, _, _, _ => none
 | k + 1, x3, x4, x23, x544000, x544001, x544002, x551000, x551001 => if x23 = true then (if (x4.length : Int) = 0 then (if (x551000 == 62 && (x551001 == 1)) = true then ((casketlaw11_awake.f).bind fun t551 => (some t551)) else (some false)) else (some false)) else (if 0 < (x3.size : Int) then (if (bt x3 0) = 45 then (if x551000 = 0 then (if (x4.length : Int) = 3 then (if 0 < (x4.length : Int) then (if ((rd_T30 x4 0).f2).toList = ([45] : List UInt8) then ((casketlaw11_awake.f).bind fun t553 => (some t553)) else (some false)) else (none)) else (some false)) else (some false)) else (if x551000 = 0 then (if (x4.length : Int) = 2 then (if 0 < (x4.length : Int) then (if ((rd_T30 x4 0).f1) = 0 then (if 1 < (x4.length : Int) then (casketlaw11_LexNumbers.j1 k x3 x4 (((rd_T30 x4 1).f1) != (x3.size : Int)) x544000 x544001 x544002) else (none)) else (casketlaw11_LexNumbers.j1 k x3 x4 true x544000 x544001 x544002)) else (none)) else (casketlaw11_LexNumbers.j1 k x3 x4 true x544000 x544001 x544002)) else (casketlaw11_LexNumbers.j1 k x3 x4 true x544000 x544001 x544002))) else (none))
def casketlaw11_LexNumbers.j1 : Nat → ByteArray → List (S30) → Bool → Bool → Int → Int → Option (Bool)
 | 0, _, _, _, _, _, _ => none
 | k + 1, x3, x4, x79, x544000, x544001, x544002 => if x79 = true then (some false) else (if x544000 = true then (if 0 < (x4.length : Int) then (if ((rd_T30 x4 0).f0) = 4 then (if ((rd_T30 x4 0).f3) = x544001 then ((casketlaw11_awake.f).bind fun t558 => (some t558)) else (some false)) else (some false)) else (none)) else ((numtext_ParseFloat.f k x3).bind fun bt559 => (if 0 < (x4.length : Int) then (if ((rd_T30 x4 0).f0) = 5 then (if ((rd_T30 x4 0).f4) = bt559.1 then ((casketlaw11_awake.f).bind fun t563 => (some t563)) else (some false)) else (some false)) else (none))))
end
def casketlaw11_LexNumbers.f (k : Nat) (a0_0 : Bool) (a0_1 : Int) (a0_2 : Int) : Option (Bool) := (numtext_Text.f k a0_0 a0_1 a0_2).bind fun t544 => (if t544.toList = ([] : List UInt8) then (some false) else ((lex_All.f t544).bind fun bt545 => (if a0_0 = true then (casketlaw11_LexNumbers.j0 k t544 bt545.1 (a0_1 == (-9223372036854775808)) a0_0 a0_1 a0_2 bt545.2.1 bt545.2.2) else (casketlaw11_LexNumbers.j0 k t544 bt545.1 false a0_0 a0_1 a0_2 bt545.2.1 bt545.2.2))))
def casketlaw11_LexNumbers.T12 : Bool × List (List Nat × List Nat) := (true, [([], []), ([0], [0]), ([1], [1]), ([2], [2]), ([3], [3]), ([4], [4]), ([5], [5]), ([6, 5], [5, 6]), ([7, 5], [5, 7]), ([8, 5], [5, 8]), ([5], [5]), ([10, 5], [5, 10]), ([9, 11, 5], [5, 9, 11]), ([5, 12], [5, 12]), ([13, 5], [13]), ([14, 14], [14]), ([14, 15], [14, 15]), ([16, 15, 0, 1, 2, 3, 4, 5, 6, 7, 8, 9, 10, 11, 12, 13, 14, 15, 16], [16])])
def casketlaw11_LexNumbers.B12 : List Nat := [0, 1, 3, 7, 15, 31, 63, 127, 255, 511, 63, 1087, 4095, 8191, 16383, 32767, 65535, 131071]
theorem casketlaw11_LexNumbers.tab12 : rtab .any (opsOf Tryd.f7 12) = casketlaw11_LexNumbers.T12 := by kernel_rfl
theorem casketlaw11_LexNumbers.bits12 : waitsOk casketlaw11_LexNumbers.T12.2 casketlaw11_LexNumbers.B12 = true := by kernel_rfl
set_option maxHeartbeats 8000000 in
set_option maxRecDepth 100000 in
theorem casketlaw11_LexNumbers.calls (k : Nat) (a0_0 : Bool) (a0_1 : Int) (a0_2 : Int) (r : Bool) (w : World) (hG : Glob w) (h : casketlaw11_LexNumbers.f k a0_0 a0_1 a0_2 = some r) :
  Calls Tryd.prog 7 #[.agg #[.bool a0_0, .int .i64 a0_1, .int .u64 a0_2]] w fun e w' => e = .returned (.bool r) ∧ Below w.heap.size w w' := by
 have HG0 := Aside0.mk hG
 clear hG
 have hu42 := Tryd.underlying42
 have hu25 := Tryd.underlying25
 have HB := Aside0.mk (Below.refl w.heap.size w)
 have H : ((numtext_Text.f k a0_0 a0_1 a0_2).bind fun t544 => (if t544.toList = ([] : List UInt8) then (some false) else ((lex_All.f t544).bind fun bt545 => (if a0_0 = true then (casketlaw11_LexNumbers.j0 k t544 bt545.1 (a0_1 == (-9223372036854775808)) a0_0 a0_1 a0_2 bt545.2.1 bt545.2.2) else (casketlaw11_LexNumbers.j0 k t544 bt545.1 false a0_0 a0_1 a0_2 bt545.2.1 bt545.2.2))))) = some r := h
 clear h
 replace H := Option.bind_eq_some_iff.mp H
 obtain ⟨t544, A20, H⟩ := H
 replace H : (if t544.toList = ([] : List UInt8) then (some false) else ((lex_All.f t544).bind fun bt545 => (if a0_0 = true then (casketlaw11_LexNumbers.j0 k t544 bt545.1 (a0_1 == (-9223372036854775808)) a0_0 a0_1 a0_2 bt545.2.1 bt545.2.2) else (casketlaw11_LexNumbers.j0 k t544 bt545.1 false a0_0 a0_1 a0_2 bt545.2.1 bt545.2.2)))) = some r := H
 have A2 := Aside0.mk A20
 clear A20
 by_cases c3 : t544.toList = ([] : List UInt8)
 ·rw [if_pos c3] at H
  have c3b0 : (t544.toList == ([] : List UInt8)) = true := beq_iff_eq.mpr c3
  have c3b1 : (t544.toList != ([] : List UInt8)) = false := bne_eq_false_iff_eq.mpr c3
  clear c3
  obtain rfl := Option.some.inj H
  go_enter Tryd.func7, Tryd.ntmps7
  go_wp2_with (first | ((with_reducible refine gate_dst (N := 1) rfl ?_); (try (refine gate_guard (by rfl) ?_; dsimp only)); refine box_event ?hg (N := 1) ?hd (cs := #[.bool a0_0, .int .i64 a0_1, .int .u64 a0_2]) (t := 42) ?hr ?_; (case hd => rfl); (case hg => rfl); (case hr => first | (go_simp; done) | (go_simp; rfl)); intro gb543 hg w4 hbox hb; have n0_ := Aside0.mk (below_step (by repeat (first | (with_reducible first | exact HB.out | apply below_alloc | apply pw_below_drewN | apply below_drew1) | exact HB.out)) hb); have n1_ := Aside0.mk (hbox); have n2_ := Aside0.mk ((by rw [hg]; exact (below_size (by repeat (first | (with_reducible first | exact HB.out | apply below_alloc | apply pw_below_drewN | apply below_drew1) | exact HB.out))) : w.heap.size ≤ gb543)); have n3_ := Aside0.mk ((by rw [hg]; exact (below_size (by repeat (first | (with_reducible first | exact HB.out | apply below_alloc | apply pw_below_drewN | apply below_drew1) | exact HB.out))) : w.heap.size ≤ gb543)); clear HB; have HB := n0_; have BK543 := n1_; have GW543 := n2_; have GE543 := n3_; clear n0_ n1_ n2_ n3_; clear hb hbox hg; have hcz5_0 : w4.cell? ⟨gb543, 0, none⟩ = some (.bool a0_0) := (blk_cell BK543.out 0).trans rfl; have hcz5_1 : w4.cell? ⟨gb543, 1, none⟩ = some (.int .i64 a0_1) := (blk_cell BK543.out 1).trans rfl; have hcz5_2 : w4.cell? ⟨gb543, 2, none⟩ = some (.int .u64 a0_2) := (blk_cell BK543.out 2).trans rfl; have hfz5_0 := blk_frozen BK543.out 0; have hfz5_1 := blk_frozen BK543.out 1; have hfz5_2 := blk_frozen BK543.out 2) | ((with_reducible refine gate_callee (f := 13) rfl ?_); refine goesL_ (some 9) rfl rfl Tryd.func13 (by kernel_rfl) rfl #[.agg #[.bool a0_0, .int .i64 a0_1, .int .u64 a0_2]] rfl (by (try simp only [List.map_toArray, List.map_cons, List.map_nil]); first | done | rfl | (simp only [List.length_drop, List.length_take]; rfl)) ?_; (with_reducible refine (numtext_Text.calls (hG := (by first | exact Glob.at_ HG0.out (by repeat (first | (with_reducible first | exact HB.out | apply below_alloc | apply pw_below_drewN | apply below_drew1 | refine below_set ?_ GE543.out | refine below_set ?_ GE550.out) | exact HB.out)) | exact Glob.at_ HG0.out (Below.refl _ _))) k a0_0 a0_1 a0_2 t544 _ A2.out).mono ?_); rintro e w6 ⟨rfl, hb⟩; refine ⟨_, rfl, ?_⟩; have n0_ := Aside0.mk (blk_below (g := gb543) (o := .cells #[.bool a0_0, .int .i64 a0_1, .int .u64 a0_2] 42 (0, 0)) (by (with_reducible repeat (first | refine blk_drewN ?_ _ | refine blk_drew ?_ | refine blk_alloc ?_ _)); exact BK543.out) hb); have n1_ := Aside0.mk (below_step (by repeat (first | (with_reducible first | exact HB.out | apply below_alloc | apply pw_below_drewN | apply below_drew1 | refine below_set ?_ GE543.out) | exact HB.out)) hb); clear BK543; clear HB; have BK543 := n0_; have HB := n1_; clear n0_ n1_; (try clear hb); (try clear hb2); (try clear hk); (try clear hi)))
  go_ret
  exact ⟨by first | rfl | (simp [errW_none, errW_some] <;> rfl) | (simp [*, errW_none, errW_some] <;> rfl), by repeat (first | (with_reducible first | exact HB.out | apply below_alloc | apply pw_below_drewN | apply below_drew1 | refine below_set ?_ GE543.out) | exact HB.out)⟩
 ·rw [if_neg c3] at H
  have c3b0 : (t544.toList == ([] : List UInt8)) = false := beq_eq_false_iff_ne.mpr c3
  have c3b1 : (t544.toList != ([] : List UInt8)) = true := bne_iff_ne.mpr c3
  replace H := Option.bind_eq_some_iff.mp H
  obtain ⟨⟨t545, t548, t549⟩, A70, H⟩ := H
  replace H : (if a0_0 = true then (casketlaw11_LexNumbers.j0 k t544 t545 (a0_1 == (-9223372036854775808)) a0_0 a0_1 a0_2 t548 t549) else (casketlaw11_LexNumbers.j0 k t544 t545 false a0_0 a0_1 a0_2 t548 t549)) = some r := H
  have A7 := Aside0.mk A70
  clear A70
  have HC8 := Aside0.mk H
  clear H
  go_enter Tryd.func7, Tryd.ntmps7
  go_upto_region 5 with (first | ((with_reducible refine gate_dst (N := 1) rfl ?_); (try (refine gate_guard (by rfl) ?_; dsimp only)); refine box_event ?hg (N := 1) ?hd (cs := #[.bool a0_0, .int .i64 a0_1, .int .u64 a0_2]) (t := 42) ?hr ?_; (case hd => rfl); (case hg => rfl); (case hr => first | (go_simp; done) | (go_simp; rfl)); intro gb543 hg w9 hbox hb; have n0_ := Aside0.mk (below_step (by repeat (first | (with_reducible first | exact HB.out | apply below_alloc | apply pw_below_drewN | apply below_drew1) | exact HB.out)) hb); have n1_ := Aside0.mk (hbox); have n2_ := Aside0.mk ((by rw [hg]; exact (below_size (by repeat (first | (with_reducible first | exact HB.out | apply below_alloc | apply pw_below_drewN | apply below_drew1) | exact HB.out))) : w.heap.size ≤ gb543)); have n3_ := Aside0.mk ((by rw [hg]; exact (below_size (by repeat (first | (with_reducible first | exact HB.out | apply below_alloc | apply pw_below_drewN | apply below_drew1) | exact HB.out))) : w.heap.size ≤ gb543)); clear HB; have HB := n0_; have BK543 := n1_; have GW543 := n2_; have GE543 := n3_; clear n0_ n1_ n2_ n3_; clear hb hbox hg; have hcz10_0 : w9.cell? ⟨gb543, 0, none⟩ = some (.bool a0_0) := (blk_cell BK543.out 0).trans rfl; have hcz10_1 : w9.cell? ⟨gb543, 1, none⟩ = some (.int .i64 a0_1) := (blk_cell BK543.out 1).trans rfl; have hcz10_2 : w9.cell? ⟨gb543, 2, none⟩ = some (.int .u64 a0_2) := (blk_cell BK543.out 2).trans rfl; have hfz10_0 := blk_frozen BK543.out 0; have hfz10_1 := blk_frozen BK543.out 1; have hfz10_2 := blk_frozen BK543.out 2) | ((with_reducible refine gate_callee (f := 13) rfl ?_); refine goesL_ (some 9) rfl rfl Tryd.func13 (by kernel_rfl) rfl #[.agg #[.bool a0_0, .int .i64 a0_1, .int .u64 a0_2]] rfl (by (try simp only [List.map_toArray, List.map_cons, List.map_nil]); first | done | rfl | (simp only [List.length_drop, List.length_take]; rfl)) ?_; (with_reducible refine (numtext_Text.calls (hG := (by first | exact Glob.at_ HG0.out (by repeat (first | (with_reducible first | exact HB.out | apply below_alloc | apply pw_below_drewN | apply below_drew1 | refine below_set ?_ GE543.out | refine below_set ?_ GE550.out) | exact HB.out)) | exact Glob.at_ HG0.out (Below.refl _ _))) k a0_0 a0_1 a0_2 t544 _ A2.out).mono ?_); rintro e w11 ⟨rfl, hb⟩; refine ⟨_, rfl, ?_⟩; have n0_ := Aside0.mk (blk_below (g := gb543) (o := .cells #[.bool a0_0, .int .i64 a0_1, .int .u64 a0_2] 42 (0, 0)) (by (with_reducible repeat (first | refine blk_drewN ?_ _ | refine blk_drew ?_ | refine blk_alloc ?_ _)); exact BK543.out) hb); have n1_ := Aside0.mk (below_step (by repeat (first | (with_reducible first | exact HB.out | apply below_alloc | apply pw_below_drewN | apply below_drew1 | refine below_set ?_ GE543.out) | exact HB.out)) hb); clear BK543; clear HB; have BK543 := n0_; have HB := n1_; clear n0_ n1_; (try clear hb); (try clear hb2); (try clear hk); (try clear hi)) | ((with_reducible refine gate_callee (f := 9) rfl ?_); refine goesL_ (some 14) rfl rfl Tryd.func9 (by kernel_rfl) rfl #[.string t544] rfl (by (try simp only [List.map_toArray, List.map_cons, List.map_nil]); first | done | rfl | (simp only [List.length_drop, List.length_take]; rfl)) ?_; (with_reducible refine (lex_All.calls (hG := (by first | exact Glob.at_ HG0.out (by repeat (first | (with_reducible first | exact HB.out | apply below_alloc | apply pw_below_drewN | apply below_drew1 | refine below_set ?_ GE543.out | refine below_set ?_ GE550.out) | exact HB.out)) | exact Glob.at_ HG0.out (Below.refl _ _))) t544 t545 t548 t549 _ A7.out).mono ?_); rintro e w12 ⟨v546, rfl, ho0, hb⟩; refine ⟨_, rfl, ?_⟩; have n0_ := Aside0.mk (Kd.R_lower ho0 (below_size (by repeat (first | (with_reducible first | exact HB.out | apply below_alloc | apply pw_below_drewN | apply below_drew1 | refine below_set ?_ GE543.out) | exact HB.out)))); have n1_ := Aside0.mk (blk_below (g := gb543) (o := .cells #[.bool a0_0, .int .i64 a0_1, .int .u64 a0_2] 42 (0, 0)) (by (with_reducible repeat (first | refine blk_drewN ?_ _ | refine blk_drew ?_ | refine blk_alloc ?_ _)); exact BK543.out) hb); have n2_ := Aside0.mk (below_step (by repeat (first | (with_reducible first | exact HB.out | apply below_alloc | apply pw_below_drewN | apply below_drew1 | refine below_set ?_ GE543.out) | exact HB.out)) hb); clear BK543; clear HB; have HO547 := n0_; have BK543 := n1_; have HB := n2_; clear n0_ n1_ n2_; (try clear hb); (try clear hb2); (try clear hk); (try clear hi); (try clear ho0)) | ((with_reducible refine gate_dst (N := 5) rfl ?_); (try (refine gate_guard (by rfl) ?_; dsimp only)); refine box_event ?hg (N := 5) ?hd (cs := #[.int .i64 0, .int .i64 0]) (t := 25) ?hr ?_; (case hd => rfl); (case hg => rfl); (case hr => first | (go_simp; done) | (go_simp; rfl)); intro gb550 hg w13 hbox hb; have n0_ := Aside0.mk (Kd.R_below (by (with_reducible repeat (first | apply Kd.R_alloc | apply Kd.R_drewN | apply Kd.R_drew)); exact HO547.out) hb); have n1_ := Aside0.mk (blk_below (g := gb543) (o := .cells #[.bool a0_0, .int .i64 a0_1, .int .u64 a0_2] 42 (0, 0)) (by (with_reducible repeat (first | refine blk_drewN ?_ _ | refine blk_drew ?_ | refine blk_alloc ?_ _)); exact BK543.out) hb); have n2_ := Aside0.mk (below_step (by repeat (first | (with_reducible first | exact HB.out | apply below_alloc | apply pw_below_drewN | apply below_drew1 | refine below_set ?_ GE543.out) | exact HB.out)) hb); have n3_ := Aside0.mk (hbox); have n4_ := Aside0.mk ((by rw [hg]; exact (below_size (by repeat (first | (with_reducible first | exact HB.out | apply below_alloc | apply pw_below_drewN | apply below_drew1 | refine below_set ?_ GE543.out) | exact HB.out))) : w.heap.size ≤ gb550)); have n5_ := Aside0.mk ((by rw [hg]; exact (below_size (by repeat (first | (with_reducible first | exact HB.out | apply below_alloc | apply pw_below_drewN | apply below_drew1 | refine below_set ?_ GE543.out) | exact HB.out))) : w.heap.size ≤ gb550)); have n6_ := Aside0.mk ((by rw [hg]; exact Nat.ne_of_lt (blk_lt (g := gb543) (o := .cells #[.bool a0_0, .int .i64 a0_1, .int .u64 a0_2] 42 (0, 0)) (by (with_reducible repeat (first | refine blk_drewN ?_ _ | refine blk_drew ?_ | refine blk_alloc ?_ _)); exact BK543.out)) : gb543 ≠ gb550)); have n7_ := Aside0.mk ((by rw [hg]; exact Nat.ne_of_gt (blk_lt (g := gb543) (o := .cells #[.bool a0_0, .int .i64 a0_1, .int .u64 a0_2] 42 (0, 0)) (by (with_reducible repeat (first | refine blk_drewN ?_ _ | refine blk_drew ?_ | refine blk_alloc ?_ _)); exact BK543.out)) : gb550 ≠ gb543)); clear HO547; clear BK543; clear HB; have HO547 := n0_; have BK543 := n1_; have HB := n2_; have BK550 := n3_; have GW550 := n4_; have GE550 := n5_; have NB543_550 := n6_; have NB550_543 := n7_; clear n0_ n1_ n2_ n3_ n4_ n5_ n6_ n7_; clear hb hbox hg; have hnb14 := NB550_543.out; have hnc14 := NB543_550.out; have hcz15_0 : w13.cell? ⟨gb550, 0, none⟩ = some (.int .i64 0) := (blk_cell BK550.out 0).trans rfl; have hcz15_1 : w13.cell? ⟨gb550, 1, none⟩ = some (.int .i64 0) := (blk_cell BK550.out 1).trans rfl; have hfz15_0 := blk_frozen BK550.out 0; have hfz15_1 := blk_frozen BK550.out 1))
  (try simp only [Act.put, List.setIfInBounds_toArray, List.set_cons_zero, List.set_cons_succ])
  go_cut [23] (fun v23 wc => ∃ (kq : Nat) (x23_7 : Bool), v23 = .bool x23_7 ∧ Aside0 (casketlaw11_LexNumbers.j0 kq t544 t545 x23_7 a0_0 a0_1 a0_2 t548 t549 = some r) ∧ Aside0 (kq ≤ k) ∧ Aside0 (Kd.R k30 30 wc w.heap.size (fun _ => True) v546 t545) ∧ Aside0 (wc.heap[gb543]? = some (.cells #[.bool a0_0, .int .i64 a0_1, .int .u64 a0_2] 42 (0, 0))) ∧ Aside0 (wc.heap[gb550]? = some (.cells #[.int .i64 t548, .int .i64 t549] 25 (0, 0))) ∧ Aside0 (Below w.heap.size w wc))
  case first =>
   have H := HC8.out
   clear HC8
   by_cases c16 : a0_0 = true
   ·subst c16
    have H1 : (casketlaw11_LexNumbers.j0 k t544 t545 (a0_1 == (-9223372036854775808)) true a0_1 a0_2 t548 t549) = some r := by rw [if_pos rfl] at H; exact H
    clear H
    have H := H1
    clear H1
    have H' := Aside0.mk H
    clear H
    have hnb17 := NB543_550.out
    have hnc17 := NB550_543.out
    have hcz18_0 : w13.cell? ⟨gb543, 0, none⟩ = some (.bool true) := (blk_cell BK543.out 0).trans rfl
    have hcz18_1 : w13.cell? ⟨gb543, 1, none⟩ = some (.int .i64 a0_1) := (blk_cell BK543.out 1).trans rfl
    have hcz18_2 : w13.cell? ⟨gb543, 2, none⟩ = some (.int .u64 a0_2) := (blk_cell BK543.out 2).trans rfl
    have hfz18_0 := blk_frozen BK543.out 0
    have hfz18_1 := blk_frozen BK543.out 1
    have hfz18_2 := blk_frozen BK543.out 2
    go_wp2
    go_meet
    case rel => exact ⟨_, ((a0_1 == (-9223372036854775808))), (by first | rfl | (simp; done) | (simp [*]; done)), H', ⟨by first | omega | exact Nat.le_refl _⟩, ⟨by (with_reducible repeat (first | apply Kd.R_alloc | apply Kd.R_drewN | apply Kd.R_drew)); exact Kd.R_mono (Kd.R_far (p := ⟨gb550, 1, none⟩) (Kd.R_far (p := ⟨gb550, 0, none⟩) (Kd.R_types HO547.out BK550.out (by decide)) (fun _ hk => hk.2) (.int .i64 t548)) (fun _ hk => hk.2) (.int .i64 t549)) (fun _ hk => trivial)⟩, ⟨by (with_reducible repeat (first | refine blk_drewN ?_ _ | refine blk_drew ?_ | refine blk_alloc ?_ _)); refine blk_far ?_ NB543_550.out _; (with_reducible repeat (first | refine blk_drewN ?_ _ | refine blk_drew ?_ | refine blk_alloc ?_ _)); refine blk_far ?_ NB543_550.out _; (with_reducible repeat (first | refine blk_drewN ?_ _ | refine blk_drew ?_ | refine blk_alloc ?_ _)); exact BK543.out⟩, ⟨by (with_reducible repeat (first | refine blk_drewN ?_ _ | refine blk_drew ?_ | refine blk_alloc ?_ _)); refine blk_put (cs := #[.int .i64 t548, .int .i64 0]) ?_ 1 _ rfl; (with_reducible repeat (first | refine blk_drewN ?_ _ | refine blk_drew ?_ | refine blk_alloc ?_ _)); refine blk_put (cs := #[.int .i64 0, .int .i64 0]) ?_ 0 _ rfl; (with_reducible repeat (first | refine blk_drewN ?_ _ | refine blk_drew ?_ | refine blk_alloc ?_ _)); exact BK550.out⟩, ⟨by repeat (first | (with_reducible first | exact HB.out | apply below_alloc | apply pw_below_drewN | apply below_drew1 | refine below_set ?_ GE543.out | refine below_set ?_ GE550.out) | exact HB.out)⟩⟩
   ·replace c16 := Bool.eq_false_iff.mpr c16
    subst c16
    have H1 : (casketlaw11_LexNumbers.j0 k t544 t545 false false a0_1 a0_2 t548 t549) = some r := by rw [if_neg (show ¬ (false = true) by decide)] at H; exact H
    clear H
    have H := H1
    clear H1
    have H' := Aside0.mk H
    clear H
    have hnb19 := NB543_550.out
    have hnc19 := NB550_543.out
    have hcz20_0 : w13.cell? ⟨gb543, 0, none⟩ = some (.bool false) := (blk_cell BK543.out 0).trans rfl
    have hcz20_1 : w13.cell? ⟨gb543, 1, none⟩ = some (.int .i64 a0_1) := (blk_cell BK543.out 1).trans rfl
    have hcz20_2 : w13.cell? ⟨gb543, 2, none⟩ = some (.int .u64 a0_2) := (blk_cell BK543.out 2).trans rfl
    have hfz20_0 := blk_frozen BK543.out 0
    have hfz20_1 := blk_frozen BK543.out 1
    have hfz20_2 := blk_frozen BK543.out 2
    go_wp2
    go_meet
    case rel => exact ⟨_, (false), (by first | rfl | (simp; done) | (simp [*]; done)), H', ⟨by first | omega | exact Nat.le_refl _⟩, ⟨by (with_reducible repeat (first | apply Kd.R_alloc | apply Kd.R_drewN | apply Kd.R_drew)); exact Kd.R_mono (Kd.R_far (p := ⟨gb550, 1, none⟩) (Kd.R_far (p := ⟨gb550, 0, none⟩) (Kd.R_types HO547.out BK550.out (by decide)) (fun _ hk => hk.2) (.int .i64 t548)) (fun _ hk => hk.2) (.int .i64 t549)) (fun _ hk => trivial)⟩, ⟨by (with_reducible repeat (first | refine blk_drewN ?_ _ | refine blk_drew ?_ | refine blk_alloc ?_ _)); refine blk_far ?_ NB543_550.out _; (with_reducible repeat (first | refine blk_drewN ?_ _ | refine blk_drew ?_ | refine blk_alloc ?_ _)); refine blk_far ?_ NB543_550.out _; (with_reducible repeat (first | refine blk_drewN ?_ _ | refine blk_drew ?_ | refine blk_alloc ?_ _)); exact BK543.out⟩, ⟨by (with_reducible repeat (first | refine blk_drewN ?_ _ | refine blk_drew ?_ | refine blk_alloc ?_ _)); refine blk_put (cs := #[.int .i64 t548, .int .i64 0]) ?_ 1 _ rfl; (with_reducible repeat (first | refine blk_drewN ?_ _ | refine blk_drew ?_ | refine blk_alloc ?_ _)); refine blk_put (cs := #[.int .i64 0, .int .i64 0]) ?_ 0 _ rfl; (with_reducible repeat (first | refine blk_drewN ?_ _ | refine blk_drew ?_ | refine blk_alloc ?_ _)); exact BK550.out⟩, ⟨by repeat (first | (with_reducible first | exact HB.out | apply below_alloc | apply pw_below_drewN | apply below_drew1 | refine below_set ?_ GE543.out | refine below_set ?_ GE550.out) | exact HB.out)⟩⟩
  case rest =>
   clear HC8
   try clear c1
   try clear p2
   try clear c3
   try clear c3b0
   try clear c3b1
   try clear c7
   try clear c9
   try clear c13
   try clear c14
   try clear c16
   try clear c17
   try clear c19
   try clear hcz10_0
   try clear hcz10_1
   try clear hcz10_2
   try clear hcz15_0
   try clear hcz15_1
   try clear hcz18_0
   try clear hcz18_1
   try clear hcz18_2
   try clear hcz20_0
   try clear hcz20_1
   try clear hcz20_2
   try clear hcz5_0
   try clear hcz5_1
   try clear hcz5_2
   try clear hfz10_0
   try clear hfz10_1
   try clear hfz10_2
   try clear hfz15_0
   try clear hfz15_1
   try clear hfz18_0
   try clear hfz18_1
   try clear hfz18_2
   try clear hfz20_0
   try clear hfz20_1
   try clear hfz20_2
   try clear hfz5_0
   try clear hfz5_1
   try clear hfz5_2
   obtain ⟨kq, x23_7, rfl, HA, HJ7, HO_4, BK543, BK550, HB⟩ := hcut
   cases kq with
   | zero => exact absurd HA.out (by simp [casketlaw11_LexNumbers.j0])
   | succ kj7 =>
    have H := HA.out
    clear HA
    simp only [casketlaw11_LexNumbers.j0] at H
    by_cases c21 : x23_7 = true
    ·subst c21
     have H1 : (if (t545.length : Int) = 0 then (if (t548 == 62 && (t549 == 1)) = true then ((casketlaw11_awake.f).bind fun t551 => (some t551)) else (some false)) else (some false)) = some r := by rw [if_pos rfl] at H; exact H
     clear H
     have H := H1
     clear H1
     by_cases c22 : (t545.length : Int) = 0
     ·rw [if_pos c22] at H
      have c22b0 : ((t545.length : Int) == 0) = true := beq_iff_eq.mpr c22
      have c22b1 : ((t545.length : Int) != 0) = false := bne_eq_false_iff_eq.mpr c22
      clear c22
      by_cases c23 : (t548 == 62 && (t549 == 1)) = true
      ·rw [if_pos c23] at H
       have c23b0 : (t548 == 62 && (t549 == 1)) = true := c23
       (try (have c23b1 : decide (t548 = 62 && (t549 == 1)) = true := by simpa using c23))
       (try (have c23b2 : (t548 == 62 && (t549 == 1)) = true := by simpa using c23))
       clear c23
       replace H := Option.bind_eq_some_iff.mp H
       obtain ⟨t551, A240, H⟩ := H
       replace H : (some t551) = some r := H
       have A24 := Aside0.mk A240
       clear A240
       obtain rfl := Option.some.inj H
       obtain ⟨Ao25, co25, eo25⟩ := Kd.R_slice HO_4.out
       subst eo25
       have hnb26 := NB550_543.out
       have hnc26 := NB543_550.out
       have hcz27_0 : wc.cell? ⟨gb550, 0, none⟩ = some (.int .i64 t548) := (blk_cell BK550.out 0).trans rfl
       have hcz27_1 : wc.cell? ⟨gb550, 1, none⟩ = some (.int .i64 t549) := (blk_cell BK550.out 1).trans rfl
       have hfz27_0 := blk_frozen BK550.out 0
       have hfz27_1 := blk_frozen BK550.out 1
       go_wp2_with (first | (go_at_call 12; (with_reducible refine (casketlaw11_awake.calls (hG := (by first | exact Glob.at_ HG0.out (by repeat (first | (with_reducible first | exact HB.out | apply below_alloc | apply pw_below_drewN | apply below_drew1 | refine below_set ?_ GE543.out | refine below_set ?_ GE550.out) | exact HB.out)) | exact Glob.at_ HG0.out (Below.refl _ _)))  t551 _ A24.out).mono ?_); rintro e w28 ⟨rfl, hb⟩; have n0_ := Aside0.mk (Kd.R_below (by (with_reducible repeat (first | apply Kd.R_alloc | apply Kd.R_drewN | apply Kd.R_drew)); exact HO_4.out) hb); have n1_ := Aside0.mk (blk_below (g := gb543) (o := .cells #[.bool a0_0, .int .i64 a0_1, .int .u64 a0_2] 42 (0, 0)) (by (with_reducible repeat (first | refine blk_drewN ?_ _ | refine blk_drew ?_ | refine blk_alloc ?_ _)); exact BK543.out) hb); have n2_ := Aside0.mk (blk_below (g := gb550) (o := .cells #[.int .i64 t548, .int .i64 t549] 25 (0, 0)) (by (with_reducible repeat (first | refine blk_drewN ?_ _ | refine blk_drew ?_ | refine blk_alloc ?_ _)); exact BK550.out) hb); have n3_ := Aside0.mk (below_step (by repeat (first | (with_reducible first | exact HB.out | apply below_alloc | apply pw_below_drewN | apply below_drew1 | refine below_set ?_ GE543.out | refine below_set ?_ GE550.out) | exact HB.out)) hb); clear HO_4; clear BK543; clear BK550; clear HB; have HO_4 := n0_; have BK543 := n1_; have BK550 := n2_; have HB := n3_; clear n0_ n1_ n2_ n3_; (try clear hb); (try clear hb2); (try clear hk); (try clear hi)))
       go_ret
       exact ⟨by first | rfl | (simp [errW_none, errW_some] <;> rfl) | (simp [*, errW_none, errW_some] <;> rfl), by repeat (first | (with_reducible first | exact HB.out | apply below_alloc | apply pw_below_drewN | apply below_drew1 | refine below_set ?_ GE543.out | refine below_set ?_ GE550.out) | exact HB.out)⟩
      ·rw [if_neg c23] at H
       have c23b0 : (t548 == 62 && (t549 == 1)) = false := by simpa using c23
       (try (have c23b1 : decide (t548 = 62 && (t549 == 1)) = false := by simpa using c23))
       (try (have c23b2 : (t548 == 62 && (t549 == 1)) = false := by simpa using c23))
       (try (have c23b3 : ¬ (t548 = 62 && (t549 == 1)) := by simpa using c23))
       clear c23
       obtain rfl := Option.some.inj H
       obtain ⟨Ao29, co29, eo29⟩ := Kd.R_slice HO_4.out
       subst eo29
       have hnb30 := NB550_543.out
       have hnc30 := NB543_550.out
       have hcz31_0 : wc.cell? ⟨gb550, 0, none⟩ = some (.int .i64 t548) := (blk_cell BK550.out 0).trans rfl
       have hcz31_1 : wc.cell? ⟨gb550, 1, none⟩ = some (.int .i64 t549) := (blk_cell BK550.out 1).trans rfl
       have hfz31_0 := blk_frozen BK550.out 0
       have hfz31_1 := blk_frozen BK550.out 1
       go_wp2
       go_ret
       exact ⟨by first | rfl | (simp [errW_none, errW_some] <;> rfl) | (simp [*, errW_none, errW_some] <;> rfl), by repeat (first | (with_reducible first | exact HB.out | apply below_alloc | apply pw_below_drewN | apply below_drew1 | refine below_set ?_ GE543.out | refine below_set ?_ GE550.out) | exact HB.out)⟩
     ·rw [if_neg c22] at H
      have c22b0 : ((t545.length : Int) == 0) = false := beq_eq_false_iff_ne.mpr c22
      have c22b1 : ((t545.length : Int) != 0) = true := bne_iff_ne.mpr c22
      have c22b2 : ¬ (t545 = []) := fun h_ => c22 (by rw [h_]; rfl)
      obtain rfl := Option.some.inj H
      obtain ⟨Ao32, co32, eo32⟩ := Kd.R_slice HO_4.out
      subst eo32
      go_wp2
      go_ret
      exact ⟨by first | rfl | (simp [errW_none, errW_some] <;> rfl) | (simp [*, errW_none, errW_some] <;> rfl), by repeat (first | (with_reducible first | exact HB.out | apply below_alloc | apply pw_below_drewN | apply below_drew1 | refine below_set ?_ GE543.out | refine below_set ?_ GE550.out) | exact HB.out)⟩
    ·replace c21 := Bool.eq_false_iff.mpr c21
     subst c21
     have H1 : (if 0 < (t544.size : Int) then (if (bt t544 0) = 45 then (if t548 = 0 then (if (t545.length : Int) = 3 then (if 0 < (t545.length : Int) then (if ((rd_T30 t545 0).f2).toList = ([45] : List UInt8) then ((casketlaw11_awake.f).bind fun t553 => (some t553)) else (some false)) else (none)) else (some false)) else (some false)) else (if t548 = 0 then (if (t545.length : Int) = 2 then (if 0 < (t545.length : Int) then (if ((rd_T30 t545 0).f1) = 0 then (if 1 < (t545.length : Int) then (casketlaw11_LexNumbers.j1 kj7 t544 t545 (((rd_T30 t545 1).f1) != (t544.size : Int)) a0_0 a0_1 a0_2) else (none)) else (casketlaw11_LexNumbers.j1 kj7 t544 t545 true a0_0 a0_1 a0_2)) else (none)) else (casketlaw11_LexNumbers.j1 kj7 t544 t545 true a0_0 a0_1 a0_2)) else (casketlaw11_LexNumbers.j1 kj7 t544 t545 true a0_0 a0_1 a0_2))) else (none)) = some r := by rw [if_neg (show ¬ (false = true) by decide)] at H; exact H
     clear H
     have H := H1
     clear H1
     by_cases c33 : 0 < (t544.size : Int)
     ·rw [if_pos c33] at H
      have c33b0 : decide (0 < (t544.size : Int)) = true := decide_eq_true c33
      have c33b1 : decide (0 < t544.size) = true := decide_eq_true (by omega)
      clear c33
      by_cases c35 : (bt t544 0) = 45
      ·rw [if_pos c35] at H
       have c35b0 : ((bt t544 0) == 45) = true := beq_iff_eq.mpr c35
       have c35b1 : ((bt t544 0) != 45) = false := bne_eq_false_iff_eq.mpr c35
       clear c35
       by_cases c36 : t548 = 0
       ·rw [if_pos c36] at H
        have c36b0 : (t548 == 0) = true := beq_iff_eq.mpr c36
        have c36b1 : (t548 != 0) = false := bne_eq_false_iff_eq.mpr c36
        clear c36
        by_cases c37 : (t545.length : Int) = 3
        ·rw [if_pos c37] at H
         have c37b0 : ((t545.length : Int) == 3) = true := beq_iff_eq.mpr c37
         have c37b1 : ((t545.length : Int) != 3) = false := bne_eq_false_iff_eq.mpr c37
         clear c37
         by_cases c38 : 0 < (t545.length : Int)
         ·rw [if_pos c38] at H
          have c38b0 : decide (0 < (t545.length : Int)) = true := decide_eq_true c38
          have c38b1 : decide (0 < t545.length) = true := decide_eq_true (by omega)
          clear c38
          by_cases c39 : ((rd_T30 t545 0).f2).toList = ([45] : List UInt8)
          ·rw [if_pos c39] at H
           have c39b0 : (((rd_T30 t545 0).f2).toList == ([45] : List UInt8)) = true := beq_iff_eq.mpr c39
           have c39b1 : (((rd_T30 t545 0).f2).toList != ([45] : List UInt8)) = false := bne_eq_false_iff_eq.mpr c39
           clear c39
           replace H := Option.bind_eq_some_iff.mp H
           obtain ⟨t553, A400, H⟩ := H
           replace H : (some t553) = some r := H
           have A40 := Aside0.mk A400
           clear A400
           obtain rfl := Option.some.inj H
           have p34 : 0 ≤ (0 : Int) := (by omega)
           have q34 : 0 < t544.size := (by have : (0 : Int) < (t544.size : Int) := of_decide_eq_true (by first | (with_reducible assumption) | assumption); omega)
           have hx34 : ∀ h : 0 < t544.size, ((t544[0]'h).toNat : Int) = bt t544 0 := bt_at t544 0
           clear p34
           have qi34 : (0 < (t544.size : Int)) = True := eq_true (of_decide_eq_true (by first | (with_reducible assumption) | assumption))
           replace q34 := eq_true q34
           have hnb41 := NB550_543.out
           have hnc41 := NB543_550.out
           have hcz42_0 : wc.cell? ⟨gb550, 0, none⟩ = some (.int .i64 t548) := (blk_cell BK550.out 0).trans rfl
           have hcz42_1 : wc.cell? ⟨gb550, 1, none⟩ = some (.int .i64 t549) := (blk_cell BK550.out 1).trans rfl
           have hfz42_0 := blk_frozen BK550.out 0
           have hfz42_1 := blk_frozen BK550.out 1
           obtain ⟨Ao43, co43, eo43⟩ := Kd.R_slice HO_4.out
           subst eo43
           have p552 : 0 ≤ (0 : Int) := (by omega)
           have q552 : 0 < (t545.length : Int) := of_decide_eq_true (by first | (with_reducible assumption) | assumption)
           obtain ⟨ad552, e552, hx552_0, hx552_1, hx552_2, hx552_3, hx552_4⟩ := at_T30 (Kd.R_reads' HO_4.out).2.2 0 p552 q552
           cases e552
           have qi552 : (0 < t545.length) = True := eq_true (by omega)
           (try rw [show ((0 : Int)).toNat = 0 from rfl] at hx552_0)
           (try rw [show 0 * 5 = 0 from rfl] at hx552_0)
           (try rw [Addr.add_zero'] at hx552_0)
           (try rw [show ((0 : Int)).toNat = 0 from rfl] at hx552_1)
           (try rw [show 0 * 5 = 0 from rfl] at hx552_1)
           (try rw [Addr.add_zero'] at hx552_1)
           (try rw [show ((0 : Int)).toNat = 0 from rfl] at hx552_2)
           (try rw [show 0 * 5 = 0 from rfl] at hx552_2)
           (try rw [Addr.add_zero'] at hx552_2)
           (try rw [show ((0 : Int)).toNat = 0 from rfl] at hx552_3)
           (try rw [show 0 * 5 = 0 from rfl] at hx552_3)
           (try rw [Addr.add_zero'] at hx552_3)
           (try rw [show ((0 : Int)).toNat = 0 from rfl] at hx552_4)
           (try rw [show 0 * 5 = 0 from rfl] at hx552_4)
           (try rw [Addr.add_zero'] at hx552_4)
           replace p552 := eq_true p552
           replace q552 := eq_true q552
           go_wp2_with (first | (go_at_call 12; (with_reducible refine (casketlaw11_awake.calls (hG := (by first | exact Glob.at_ HG0.out (by repeat (first | (with_reducible first | exact HB.out | apply below_alloc | apply pw_below_drewN | apply below_drew1 | refine below_set ?_ GE543.out | refine below_set ?_ GE550.out) | exact HB.out)) | exact Glob.at_ HG0.out (Below.refl _ _)))  t553 _ A40.out).mono ?_); rintro e w44 ⟨rfl, hb⟩; have n0_ := Aside0.mk (Kd.R_below (by (with_reducible repeat (first | apply Kd.R_alloc | apply Kd.R_drewN | apply Kd.R_drew)); exact HO_4.out) hb); have n1_ := Aside0.mk (blk_below (g := gb543) (o := .cells #[.bool a0_0, .int .i64 a0_1, .int .u64 a0_2] 42 (0, 0)) (by (with_reducible repeat (first | refine blk_drewN ?_ _ | refine blk_drew ?_ | refine blk_alloc ?_ _)); exact BK543.out) hb); have n2_ := Aside0.mk (blk_below (g := gb550) (o := .cells #[.int .i64 t548, .int .i64 t549] 25 (0, 0)) (by (with_reducible repeat (first | refine blk_drewN ?_ _ | refine blk_drew ?_ | refine blk_alloc ?_ _)); exact BK550.out) hb); have n3_ := Aside0.mk (below_step (by repeat (first | (with_reducible first | exact HB.out | apply below_alloc | apply pw_below_drewN | apply below_drew1 | refine below_set ?_ GE543.out | refine below_set ?_ GE550.out) | exact HB.out)) hb); clear HO_4; clear BK543; clear BK550; clear HB; have HO_4 := n0_; have BK543 := n1_; have BK550 := n2_; have HB := n3_; clear n0_ n1_ n2_ n3_; (try clear hb); (try clear hb2); (try clear hk); (try clear hi)))
           go_ret
           exact ⟨by first | rfl | (simp [errW_none, errW_some] <;> rfl) | (simp [*, errW_none, errW_some] <;> rfl), by repeat (first | (with_reducible first | exact HB.out | apply below_alloc | apply pw_below_drewN | apply below_drew1 | refine below_set ?_ GE543.out | refine below_set ?_ GE550.out) | exact HB.out)⟩
          ·rw [if_neg c39] at H
           have c39b0 : (((rd_T30 t545 0).f2).toList == ([45] : List UInt8)) = false := beq_eq_false_iff_ne.mpr c39
           have c39b1 : (((rd_T30 t545 0).f2).toList != ([45] : List UInt8)) = true := bne_iff_ne.mpr c39
           obtain rfl := Option.some.inj H
           have p34 : 0 ≤ (0 : Int) := (by omega)
           have q34 : 0 < t544.size := (by have : (0 : Int) < (t544.size : Int) := of_decide_eq_true (by first | (with_reducible assumption) | assumption); omega)
           have hx34 : ∀ h : 0 < t544.size, ((t544[0]'h).toNat : Int) = bt t544 0 := bt_at t544 0
           clear p34
           have qi34 : (0 < (t544.size : Int)) = True := eq_true (of_decide_eq_true (by first | (with_reducible assumption) | assumption))
           replace q34 := eq_true q34
           have hnb45 := NB550_543.out
           have hnc45 := NB543_550.out
           have hcz46_0 : wc.cell? ⟨gb550, 0, none⟩ = some (.int .i64 t548) := (blk_cell BK550.out 0).trans rfl
           have hcz46_1 : wc.cell? ⟨gb550, 1, none⟩ = some (.int .i64 t549) := (blk_cell BK550.out 1).trans rfl
           have hfz46_0 := blk_frozen BK550.out 0
           have hfz46_1 := blk_frozen BK550.out 1
           obtain ⟨Ao47, co47, eo47⟩ := Kd.R_slice HO_4.out
           subst eo47
           have p552 : 0 ≤ (0 : Int) := (by omega)
           have q552 : 0 < (t545.length : Int) := of_decide_eq_true (by first | (with_reducible assumption) | assumption)
           obtain ⟨ad552, e552, hx552_0, hx552_1, hx552_2, hx552_3, hx552_4⟩ := at_T30 (Kd.R_reads' HO_4.out).2.2 0 p552 q552
           cases e552
           have qi552 : (0 < t545.length) = True := eq_true (by omega)
           (try rw [show ((0 : Int)).toNat = 0 from rfl] at hx552_0)
           (try rw [show 0 * 5 = 0 from rfl] at hx552_0)
           (try rw [Addr.add_zero'] at hx552_0)
           (try rw [show ((0 : Int)).toNat = 0 from rfl] at hx552_1)
           (try rw [show 0 * 5 = 0 from rfl] at hx552_1)
           (try rw [Addr.add_zero'] at hx552_1)
           (try rw [show ((0 : Int)).toNat = 0 from rfl] at hx552_2)
           (try rw [show 0 * 5 = 0 from rfl] at hx552_2)
           (try rw [Addr.add_zero'] at hx552_2)
           (try rw [show ((0 : Int)).toNat = 0 from rfl] at hx552_3)
           (try rw [show 0 * 5 = 0 from rfl] at hx552_3)
           (try rw [Addr.add_zero'] at hx552_3)
           (try rw [show ((0 : Int)).toNat = 0 from rfl] at hx552_4)
           (try rw [show 0 * 5 = 0 from rfl] at hx552_4)
           (try rw [Addr.add_zero'] at hx552_4)
           replace p552 := eq_true p552
           replace q552 := eq_true q552
           go_wp2
           go_ret
           exact ⟨by first | rfl | (simp [errW_none, errW_some] <;> rfl) | (simp [*, errW_none, errW_some] <;> rfl), by repeat (first | (with_reducible first | exact HB.out | apply below_alloc | apply pw_below_drewN | apply below_drew1 | refine below_set ?_ GE543.out | refine below_set ?_ GE550.out) | exact HB.out)⟩
         ·rw [if_neg c38] at H
          exact absurd H (by simp)
        ·rw [if_neg c37] at H
         have c37b0 : ((t545.length : Int) == 3) = false := beq_eq_false_iff_ne.mpr c37
         have c37b1 : ((t545.length : Int) != 3) = true := bne_iff_ne.mpr c37
         obtain rfl := Option.some.inj H
         have p34 : 0 ≤ (0 : Int) := (by omega)
         have q34 : 0 < t544.size := (by have : (0 : Int) < (t544.size : Int) := of_decide_eq_true (by first | (with_reducible assumption) | assumption); omega)
         have hx34 : ∀ h : 0 < t544.size, ((t544[0]'h).toNat : Int) = bt t544 0 := bt_at t544 0
         clear p34
         have qi34 : (0 < (t544.size : Int)) = True := eq_true (of_decide_eq_true (by first | (with_reducible assumption) | assumption))
         replace q34 := eq_true q34
         have hnb48 := NB550_543.out
         have hnc48 := NB543_550.out
         have hcz49_0 : wc.cell? ⟨gb550, 0, none⟩ = some (.int .i64 t548) := (blk_cell BK550.out 0).trans rfl
         have hcz49_1 : wc.cell? ⟨gb550, 1, none⟩ = some (.int .i64 t549) := (blk_cell BK550.out 1).trans rfl
         have hfz49_0 := blk_frozen BK550.out 0
         have hfz49_1 := blk_frozen BK550.out 1
         obtain ⟨Ao50, co50, eo50⟩ := Kd.R_slice HO_4.out
         subst eo50
         go_wp2
         go_ret
         exact ⟨by first | rfl | (simp [errW_none, errW_some] <;> rfl) | (simp [*, errW_none, errW_some] <;> rfl), by repeat (first | (with_reducible first | exact HB.out | apply below_alloc | apply pw_below_drewN | apply below_drew1 | refine below_set ?_ GE543.out | refine below_set ?_ GE550.out) | exact HB.out)⟩
       ·rw [if_neg c36] at H
        have c36b0 : (t548 == 0) = false := beq_eq_false_iff_ne.mpr c36
        have c36b1 : (t548 != 0) = true := bne_iff_ne.mpr c36
        obtain rfl := Option.some.inj H
        have p34 : 0 ≤ (0 : Int) := (by omega)
        have q34 : 0 < t544.size := (by have : (0 : Int) < (t544.size : Int) := of_decide_eq_true (by first | (with_reducible assumption) | assumption); omega)
        have hx34 : ∀ h : 0 < t544.size, ((t544[0]'h).toNat : Int) = bt t544 0 := bt_at t544 0
        clear p34
        have qi34 : (0 < (t544.size : Int)) = True := eq_true (of_decide_eq_true (by first | (with_reducible assumption) | assumption))
        replace q34 := eq_true q34
        have hnb51 := NB550_543.out
        have hnc51 := NB543_550.out
        have hcz52_0 : wc.cell? ⟨gb550, 0, none⟩ = some (.int .i64 t548) := (blk_cell BK550.out 0).trans rfl
        have hcz52_1 : wc.cell? ⟨gb550, 1, none⟩ = some (.int .i64 t549) := (blk_cell BK550.out 1).trans rfl
        have hfz52_0 := blk_frozen BK550.out 0
        have hfz52_1 := blk_frozen BK550.out 1
        go_wp2
        go_ret
        exact ⟨by first | rfl | (simp [errW_none, errW_some] <;> rfl) | (simp [*, errW_none, errW_some] <;> rfl), by repeat (first | (with_reducible first | exact HB.out | apply below_alloc | apply pw_below_drewN | apply below_drew1 | refine below_set ?_ GE543.out | refine below_set ?_ GE550.out) | exact HB.out)⟩
      ·rw [if_neg c35] at H
       have c35b0 : ((bt t544 0) == 45) = false := beq_eq_false_iff_ne.mpr c35
       have c35b1 : ((bt t544 0) != 45) = true := bne_iff_ne.mpr c35
       have HC53 := Aside0.mk H
       clear H
       have p34 : 0 ≤ (0 : Int) := (by omega)
       have q34 : 0 < t544.size := (by have : (0 : Int) < (t544.size : Int) := of_decide_eq_true (by first | (with_reducible assumption) | assumption); omega)
       have hx34 : ∀ h : 0 < t544.size, ((t544[0]'h).toNat : Int) = bt t544 0 := bt_at t544 0
       clear p34
       have qi34 : (0 < (t544.size : Int)) = True := eq_true (of_decide_eq_true (by first | (with_reducible assumption) | assumption))
       replace q34 := eq_true q34
       go_upto_region 9 with (fail)
       go_cut [79] (fun v79 wc => ∃ (kq : Nat) (x79_52 : Bool), v79 = .bool x79_52 ∧ Aside0 (casketlaw11_LexNumbers.j1 kq t544 t545 x79_52 a0_0 a0_1 a0_2 = some r) ∧ Aside0 (kq ≤ kj7) ∧ Aside0 (Kd.R k30 30 wc w.heap.size (fun _ => True) v546 t545) ∧ Aside0 (wc.heap[gb543]? = some (.cells #[.bool a0_0, .int .i64 a0_1, .int .u64 a0_2] 42 (0, 0))) ∧ Aside0 (wc.heap[gb550]? = some (.cells #[.int .i64 t548, .int .i64 t549] 25 (0, 0))) ∧ Aside0 (Below w.heap.size w wc))
       case first =>
        have H := HC53.out
        clear HC53
        by_cases c54 : t548 = 0
        ·rw [if_pos c54] at H
         have c54b0 : (t548 == 0) = true := beq_iff_eq.mpr c54
         have c54b1 : (t548 != 0) = false := bne_eq_false_iff_eq.mpr c54
         clear c54
         (first | rw [c54b0] | (simp only [i64_w, i32_w]; rw [c54b0]) | skip)
         by_cases c55 : (t545.length : Int) = 2
         ·rw [if_pos c55] at H
          have c55b0 : ((t545.length : Int) == 2) = true := beq_iff_eq.mpr c55
          have c55b1 : ((t545.length : Int) != 2) = false := bne_eq_false_iff_eq.mpr c55
          clear c55
          by_cases c56 : 0 < (t545.length : Int)
          ·rw [if_pos c56] at H
           have c56b0 : decide (0 < (t545.length : Int)) = true := decide_eq_true c56
           have c56b1 : decide (0 < t545.length) = true := decide_eq_true (by omega)
           clear c56
           by_cases c57 : ((rd_T30 t545 0).f1) = 0
           ·rw [if_pos c57] at H
            have c57b0 : (((rd_T30 t545 0).f1) == 0) = true := beq_iff_eq.mpr c57
            have c57b1 : (((rd_T30 t545 0).f1) != 0) = false := bne_eq_false_iff_eq.mpr c57
            clear c57
            by_cases c58 : 1 < (t545.length : Int)
            ·rw [if_pos c58] at H
             have c58b0 : decide (1 < (t545.length : Int)) = true := decide_eq_true c58
             have c58b1 : decide (1 < t545.length) = true := decide_eq_true (by omega)
             clear c58
             have H' := Aside0.mk H
             clear H
             have hnb59 := NB550_543.out
             have hnc59 := NB543_550.out
             have hcz60_0 : wc.cell? ⟨gb550, 0, none⟩ = some (.int .i64 t548) := (blk_cell BK550.out 0).trans rfl
             have hcz60_1 : wc.cell? ⟨gb550, 1, none⟩ = some (.int .i64 t549) := (blk_cell BK550.out 1).trans rfl
             have hfz60_0 := blk_frozen BK550.out 0
             have hfz60_1 := blk_frozen BK550.out 1
             obtain ⟨Ao61, co61, eo61⟩ := Kd.R_slice HO_4.out
             subst eo61
             have p554 : 0 ≤ (0 : Int) := (by omega)
             have q554 : 0 < (t545.length : Int) := of_decide_eq_true (by first | (with_reducible assumption) | assumption)
             obtain ⟨ad554, e554, hx554_0, hx554_1, hx554_2, hx554_3, hx554_4⟩ := at_T30 (Kd.R_reads' HO_4.out).2.2 0 p554 q554
             cases e554
             have qi554 : (0 < t545.length) = True := eq_true (by omega)
             (try rw [show ((0 : Int)).toNat = 0 from rfl] at hx554_0)
             (try rw [show 0 * 5 = 0 from rfl] at hx554_0)
             (try rw [Addr.add_zero'] at hx554_0)
             (try rw [show ((0 : Int)).toNat = 0 from rfl] at hx554_1)
             (try rw [show 0 * 5 = 0 from rfl] at hx554_1)
             (try rw [Addr.add_zero'] at hx554_1)
             (try rw [show ((0 : Int)).toNat = 0 from rfl] at hx554_2)
             (try rw [show 0 * 5 = 0 from rfl] at hx554_2)
             (try rw [Addr.add_zero'] at hx554_2)
             (try rw [show ((0 : Int)).toNat = 0 from rfl] at hx554_3)
             (try rw [show 0 * 5 = 0 from rfl] at hx554_3)
             (try rw [Addr.add_zero'] at hx554_3)
             (try rw [show ((0 : Int)).toNat = 0 from rfl] at hx554_4)
             (try rw [show 0 * 5 = 0 from rfl] at hx554_4)
             (try rw [Addr.add_zero'] at hx554_4)
             replace p554 := eq_true p554
             replace q554 := eq_true q554
             have p555 : 0 ≤ (1 : Int) := (by omega)
             have q555 : 1 < (t545.length : Int) := of_decide_eq_true (by first | (with_reducible assumption) | assumption)
             obtain ⟨ad555, e555, hx555_0, hx555_1, hx555_2, hx555_3, hx555_4⟩ := at_T30 (Kd.R_reads' HO_4.out).2.2 1 p555 q555
             obtain rfl : ad554 = ad555 := (by injection e555)
             (try simp only [show (1 : Int).toNat = 1 from rfl, Nat.reduceMul, Nat.reduceEqDiff, Go.Addr.add, ↓reduceIte] at hx555_0)
             (try simp only [show (1 : Int).toNat = 1 from rfl, Nat.reduceMul, Nat.reduceEqDiff, Go.Addr.add, ↓reduceIte] at hx555_1)
             (try simp only [show (1 : Int).toNat = 1 from rfl, Nat.reduceMul, Nat.reduceEqDiff, Go.Addr.add, ↓reduceIte] at hx555_2)
             (try simp only [show (1 : Int).toNat = 1 from rfl, Nat.reduceMul, Nat.reduceEqDiff, Go.Addr.add, ↓reduceIte] at hx555_3)
             (try simp only [show (1 : Int).toNat = 1 from rfl, Nat.reduceMul, Nat.reduceEqDiff, Go.Addr.add, ↓reduceIte] at hx555_4)
             have qi555 : (1 < t545.length) = True := eq_true (by omega)
             (try rw [show ((1 : Int)).toNat = 1 from rfl] at hx555_0)
             (try rw [show 1 * 5 = 5 from rfl] at hx555_0)
             (try rw [show ((1 : Int)).toNat = 1 from rfl] at hx555_1)
             (try rw [show 1 * 5 = 5 from rfl] at hx555_1)
             (try rw [show ((1 : Int)).toNat = 1 from rfl] at hx555_2)
             (try rw [show 1 * 5 = 5 from rfl] at hx555_2)
             (try rw [show ((1 : Int)).toNat = 1 from rfl] at hx555_3)
             (try rw [show 1 * 5 = 5 from rfl] at hx555_3)
             (try rw [show ((1 : Int)).toNat = 1 from rfl] at hx555_4)
             (try rw [show 1 * 5 = 5 from rfl] at hx555_4)
             replace p555 := eq_true p555
             replace q555 := eq_true q555
             go_wp2
             go_meet
             case rel => exact ⟨_, ((((rd_T30 t545 1).f1) != (t544.size : Int))), (by first | rfl | (simp; done) | (simp [*]; done)), H', ⟨by have := HJ7.out; first | omega | exact Nat.le_refl _⟩, ⟨by (with_reducible repeat (first | apply Kd.R_alloc | apply Kd.R_drewN | apply Kd.R_drew)); exact HO_4.out⟩, ⟨by (with_reducible repeat (first | refine blk_drewN ?_ _ | refine blk_drew ?_ | refine blk_alloc ?_ _)); exact BK543.out⟩, ⟨by (with_reducible repeat (first | refine blk_drewN ?_ _ | refine blk_drew ?_ | refine blk_alloc ?_ _)); exact BK550.out⟩, ⟨by repeat (first | (with_reducible first | exact HB.out | apply below_alloc | apply pw_below_drewN | apply below_drew1 | refine below_set ?_ GE543.out | refine below_set ?_ GE550.out) | exact HB.out)⟩⟩
            ·rw [if_neg c58] at H
             exact absurd H (by simp)
           ·rw [if_neg c57] at H
            have c57b0 : (((rd_T30 t545 0).f1) == 0) = false := beq_eq_false_iff_ne.mpr c57
            have c57b1 : (((rd_T30 t545 0).f1) != 0) = true := bne_iff_ne.mpr c57
            have H' := Aside0.mk H
            clear H
            have hnb62 := NB550_543.out
            have hnc62 := NB543_550.out
            have hcz63_0 : wc.cell? ⟨gb550, 0, none⟩ = some (.int .i64 t548) := (blk_cell BK550.out 0).trans rfl
            have hcz63_1 : wc.cell? ⟨gb550, 1, none⟩ = some (.int .i64 t549) := (blk_cell BK550.out 1).trans rfl
            have hfz63_0 := blk_frozen BK550.out 0
            have hfz63_1 := blk_frozen BK550.out 1
            obtain ⟨Ao64, co64, eo64⟩ := Kd.R_slice HO_4.out
            subst eo64
            have p554 : 0 ≤ (0 : Int) := (by omega)
            have q554 : 0 < (t545.length : Int) := of_decide_eq_true (by first | (with_reducible assumption) | assumption)
            obtain ⟨ad554, e554, hx554_0, hx554_1, hx554_2, hx554_3, hx554_4⟩ := at_T30 (Kd.R_reads' HO_4.out).2.2 0 p554 q554
            cases e554
            have qi554 : (0 < t545.length) = True := eq_true (by omega)
            (try rw [show ((0 : Int)).toNat = 0 from rfl] at hx554_0)
            (try rw [show 0 * 5 = 0 from rfl] at hx554_0)
            (try rw [Addr.add_zero'] at hx554_0)
            (try rw [show ((0 : Int)).toNat = 0 from rfl] at hx554_1)
            (try rw [show 0 * 5 = 0 from rfl] at hx554_1)
            (try rw [Addr.add_zero'] at hx554_1)
            (try rw [show ((0 : Int)).toNat = 0 from rfl] at hx554_2)
            (try rw [show 0 * 5 = 0 from rfl] at hx554_2)
            (try rw [Addr.add_zero'] at hx554_2)
            (try rw [show ((0 : Int)).toNat = 0 from rfl] at hx554_3)
            (try rw [show 0 * 5 = 0 from rfl] at hx554_3)
            (try rw [Addr.add_zero'] at hx554_3)
            (try rw [show ((0 : Int)).toNat = 0 from rfl] at hx554_4)
            (try rw [show 0 * 5 = 0 from rfl] at hx554_4)
            (try rw [Addr.add_zero'] at hx554_4)
            replace p554 := eq_true p554
            replace q554 := eq_true q554
            go_wp2
            go_meet
            case rel => exact ⟨_, (true), (by first | rfl | (simp; done) | (simp [*]; done)), H', ⟨by have := HJ7.out; first | omega | exact Nat.le_refl _⟩, ⟨by (with_reducible repeat (first | apply Kd.R_alloc | apply Kd.R_drewN | apply Kd.R_drew)); exact HO_4.out⟩, ⟨by (with_reducible repeat (first | refine blk_drewN ?_ _ | refine blk_drew ?_ | refine blk_alloc ?_ _)); exact BK543.out⟩, ⟨by (with_reducible repeat (first | refine blk_drewN ?_ _ | refine blk_drew ?_ | refine blk_alloc ?_ _)); exact BK550.out⟩, ⟨by repeat (first | (with_reducible first | exact HB.out | apply below_alloc | apply pw_below_drewN | apply below_drew1 | refine below_set ?_ GE543.out | refine below_set ?_ GE550.out) | exact HB.out)⟩⟩
          ·rw [if_neg c56] at H
           exact absurd H (by simp)
         ·rw [if_neg c55] at H
          have c55b0 : ((t545.length : Int) == 2) = false := beq_eq_false_iff_ne.mpr c55
          have c55b1 : ((t545.length : Int) != 2) = true := bne_iff_ne.mpr c55
          have H' := Aside0.mk H
          clear H
          have hnb65 := NB550_543.out
          have hnc65 := NB543_550.out
          have hcz66_0 : wc.cell? ⟨gb550, 0, none⟩ = some (.int .i64 t548) := (blk_cell BK550.out 0).trans rfl
          have hcz66_1 : wc.cell? ⟨gb550, 1, none⟩ = some (.int .i64 t549) := (blk_cell BK550.out 1).trans rfl
          have hfz66_0 := blk_frozen BK550.out 0
          have hfz66_1 := blk_frozen BK550.out 1
          obtain ⟨Ao67, co67, eo67⟩ := Kd.R_slice HO_4.out
          subst eo67
          go_wp2
          go_meet
          case rel => exact ⟨_, (true), (by first | rfl | (simp; done) | (simp [*]; done)), H', ⟨by have := HJ7.out; first | omega | exact Nat.le_refl _⟩, ⟨by (with_reducible repeat (first | apply Kd.R_alloc | apply Kd.R_drewN | apply Kd.R_drew)); exact HO_4.out⟩, ⟨by (with_reducible repeat (first | refine blk_drewN ?_ _ | refine blk_drew ?_ | refine blk_alloc ?_ _)); exact BK543.out⟩, ⟨by (with_reducible repeat (first | refine blk_drewN ?_ _ | refine blk_drew ?_ | refine blk_alloc ?_ _)); exact BK550.out⟩, ⟨by repeat (first | (with_reducible first | exact HB.out | apply below_alloc | apply pw_below_drewN | apply below_drew1 | refine below_set ?_ GE543.out | refine below_set ?_ GE550.out) | exact HB.out)⟩⟩
        ·rw [if_neg c54] at H
         have c54b0 : (t548 == 0) = false := beq_eq_false_iff_ne.mpr c54
         have c54b1 : (t548 != 0) = true := bne_iff_ne.mpr c54
         (first | rw [c54b0] | (simp only [i64_w, i32_w]; rw [c54b0]) | skip)
         have H' := Aside0.mk H
         clear H
         have hnb68 := NB550_543.out
         have hnc68 := NB543_550.out
         have hcz69_0 : wc.cell? ⟨gb550, 0, none⟩ = some (.int .i64 t548) := (blk_cell BK550.out 0).trans rfl
         have hcz69_1 : wc.cell? ⟨gb550, 1, none⟩ = some (.int .i64 t549) := (blk_cell BK550.out 1).trans rfl
         have hfz69_0 := blk_frozen BK550.out 0
         have hfz69_1 := blk_frozen BK550.out 1
         go_wp2
         go_meet
         case rel => exact ⟨_, (true), (by first | rfl | (simp; done) | (simp [*]; done)), H', ⟨by have := HJ7.out; first | omega | exact Nat.le_refl _⟩, ⟨by (with_reducible repeat (first | apply Kd.R_alloc | apply Kd.R_drewN | apply Kd.R_drew)); exact HO_4.out⟩, ⟨by (with_reducible repeat (first | refine blk_drewN ?_ _ | refine blk_drew ?_ | refine blk_alloc ?_ _)); exact BK543.out⟩, ⟨by (with_reducible repeat (first | refine blk_drewN ?_ _ | refine blk_drew ?_ | refine blk_alloc ?_ _)); exact BK550.out⟩, ⟨by repeat (first | (with_reducible first | exact HB.out | apply below_alloc | apply pw_below_drewN | apply below_drew1 | refine below_set ?_ GE543.out | refine below_set ?_ GE550.out) | exact HB.out)⟩⟩
       case rest =>
        clear HC53
        try clear c1
        try clear c2
        try clear p2
        try clear c3
        try clear c3b0
        try clear c3b1
        try clear p3
        try clear q3
        try clear hx3
        try clear qi3
        try clear c4
        try clear c5
        try clear p5
        try clear q5
        try clear hx5
        try clear qi5
        try clear c6
        try clear c7
        try clear c9
        try clear c13
        try clear c14
        try clear c16
        try clear c17
        try clear c19
        try clear c21
        try clear c22
        try clear c22b0
        try clear c22b1
        try clear c22b2
        try clear c23
        try clear c23b0
        try clear c23b1
        try clear c23b2
        try clear c26
        try clear c30
        try clear c33
        try clear c33b0
        try clear c33b1
        try clear p34
        try clear q34
        try clear hx34
        try clear qi34
        try clear c35
        try clear c35b0
        try clear c35b1
        try clear c36
        try clear c36b0
        try clear c36b1
        try clear c37
        try clear c37b0
        try clear c37b1
        try clear c38
        try clear c38b0
        try clear c38b1
        try clear c39
        try clear c39b0
        try clear c39b1
        try clear c41
        try clear c45
        try clear c48
        try clear c51
        try clear c54
        try clear c54b0
        try clear c54b1
        try clear c55
        try clear c55b0
        try clear c55b1
        try clear p55
        try clear q55
        try clear hx55
        try clear qi55
        try clear c56
        try clear c56b0
        try clear c56b1
        try clear c57
        try clear c57b0
        try clear c57b1
        try clear c58
        try clear c58b0
        try clear c58b1
        try clear c59
        try clear c62
        try clear c65
        try clear c68
        try clear hcz10_0
        try clear hcz10_1
        try clear hcz10_2
        try clear hcz15_0
        try clear hcz15_1
        try clear hcz18_0
        try clear hcz18_1
        try clear hcz18_2
        try clear hcz20_0
        try clear hcz20_1
        try clear hcz20_2
        try clear hcz27_0
        try clear hcz27_1
        try clear hcz31_0
        try clear hcz31_1
        try clear hcz42_0
        try clear hcz42_1
        try clear hcz46_0
        try clear hcz46_1
        try clear hcz49_0
        try clear hcz49_1
        try clear hcz52_0
        try clear hcz52_1
        try clear hcz5_0
        try clear hcz5_1
        try clear hcz5_2
        try clear hcz60_0
        try clear hcz60_1
        try clear hcz63_0
        try clear hcz63_1
        try clear hcz66_0
        try clear hcz66_1
        try clear hcz69_0
        try clear hcz69_1
        try clear hfz10_0
        try clear hfz10_1
        try clear hfz10_2
        try clear hfz15_0
        try clear hfz15_1
        try clear hfz18_0
        try clear hfz18_1
        try clear hfz18_2
        try clear hfz20_0
        try clear hfz20_1
        try clear hfz20_2
        try clear hfz27_0
        try clear hfz27_1
        try clear hfz31_0
        try clear hfz31_1
        try clear hfz42_0
        try clear hfz42_1
        try clear hfz46_0
        try clear hfz46_1
        try clear hfz49_0
        try clear hfz49_1
        try clear hfz52_0
        try clear hfz52_1
        try clear hfz5_0
        try clear hfz5_1
        try clear hfz5_2
        try clear hfz60_0
        try clear hfz60_1
        try clear hfz63_0
        try clear hfz63_1
        try clear hfz66_0
        try clear hfz66_1
        try clear hfz69_0
        try clear hfz69_1
        try clear hx552_0
        try clear hx552_1
        try clear hx552_2
        try clear hx552_3
        try clear hx552_4
        try clear hx554_0
        try clear hx554_1
        try clear hx554_2
        try clear hx554_3
        try clear hx554_4
        try clear hx555_0
        try clear hx555_1
        try clear hx555_2
        try clear hx555_3
        try clear hx555_4
        try clear p2
        try clear p34
        try clear p552
        try clear p554
        try clear p555
        try clear q34
        try clear q552
        try clear q554
        try clear q555
        obtain ⟨kq, x79_52, rfl, HA, HJ52, HO_4, BK543, BK550, HB⟩ := hcut
        cases kq with
        | zero => exact absurd HA.out (by simp [casketlaw11_LexNumbers.j1])
        | succ kj52 =>
         have H := HA.out
         clear HA
         simp only [casketlaw11_LexNumbers.j1] at H
         by_cases c70 : x79_52 = true
         ·subst c70
          have H1 : (some false) = some r := by rw [if_pos rfl] at H; exact H
          clear H
          have H := H1
          clear H1
          obtain rfl := Option.some.inj H
          go_wp2
          go_ret
          exact ⟨by first | rfl | (simp [errW_none, errW_some] <;> rfl) | (simp [*, errW_none, errW_some] <;> rfl), by repeat (first | (with_reducible first | exact HB.out | apply below_alloc | apply pw_below_drewN | apply below_drew1 | refine below_set ?_ GE543.out | refine below_set ?_ GE550.out) | exact HB.out)⟩
         ·replace c70 := Bool.eq_false_iff.mpr c70
          subst c70
          have H1 : (if a0_0 = true then (if 0 < (t545.length : Int) then (if ((rd_T30 t545 0).f0) = 4 then (if ((rd_T30 t545 0).f3) = a0_1 then ((casketlaw11_awake.f).bind fun t558 => (some t558)) else (some false)) else (some false)) else (none)) else ((numtext_ParseFloat.f kj52 t544).bind fun bt559 => (if 0 < (t545.length : Int) then (if ((rd_T30 t545 0).f0) = 5 then (if ((rd_T30 t545 0).f4) = bt559.1 then ((casketlaw11_awake.f).bind fun t563 => (some t563)) else (some false)) else (some false)) else (none)))) = some r := by rw [if_neg (show ¬ (false = true) by decide)] at H; exact H
          clear H
          have H := H1
          clear H1
          by_cases c71 : a0_0 = true
          ·subst c71
           have H1 : (if 0 < (t545.length : Int) then (if ((rd_T30 t545 0).f0) = 4 then (if ((rd_T30 t545 0).f3) = a0_1 then ((casketlaw11_awake.f).bind fun t558 => (some t558)) else (some false)) else (some false)) else (none)) = some r := by rw [if_pos rfl] at H; exact H
           clear H
           have H := H1
           clear H1
           by_cases c72 : 0 < (t545.length : Int)
           ·rw [if_pos c72] at H
            have c72b0 : decide (0 < (t545.length : Int)) = true := decide_eq_true c72
            have c72b1 : decide (0 < t545.length) = true := decide_eq_true (by omega)
            clear c72
            by_cases c73 : ((rd_T30 t545 0).f0) = 4
            ·rw [if_pos c73] at H
             have c73b0 : (((rd_T30 t545 0).f0) == 4) = true := beq_iff_eq.mpr c73
             have c73b1 : (((rd_T30 t545 0).f0) != 4) = false := bne_eq_false_iff_eq.mpr c73
             clear c73
             by_cases c74 : ((rd_T30 t545 0).f3) = a0_1
             ·rw [if_pos c74] at H
              have c74b0 : (((rd_T30 t545 0).f3) == a0_1) = true := beq_iff_eq.mpr c74
              have c74b1 : (((rd_T30 t545 0).f3) != a0_1) = false := bne_eq_false_iff_eq.mpr c74
              clear c74
              replace H := Option.bind_eq_some_iff.mp H
              obtain ⟨t558, A750, H⟩ := H
              replace H : (some t558) = some r := H
              have A75 := Aside0.mk A750
              clear A750
              obtain rfl := Option.some.inj H
              have hnb76 := NB543_550.out
              have hnc76 := NB550_543.out
              have hcz77_0 : wc.cell? ⟨gb543, 0, none⟩ = some (.bool true) := (blk_cell BK543.out 0).trans rfl
              have hcz77_1 : wc.cell? ⟨gb543, 1, none⟩ = some (.int .i64 a0_1) := (blk_cell BK543.out 1).trans rfl
              have hcz77_2 : wc.cell? ⟨gb543, 2, none⟩ = some (.int .u64 a0_2) := (blk_cell BK543.out 2).trans rfl
              have hfz77_0 := blk_frozen BK543.out 0
              have hfz77_1 := blk_frozen BK543.out 1
              have hfz77_2 := blk_frozen BK543.out 2
              try go_wp2
              have n0_ := Aside0.mk (Kd.R_drew HO_4.out)
              have n1_ := Aside0.mk (blk_drew BK543.out)
              have n2_ := Aside0.mk (blk_drew BK550.out)
              have n3_ := Aside0.mk (below_drew1 HB.out)
              clear HO_4
              clear BK543
              clear BK550
              clear HB
              have HO_4 := n0_
              have BK543 := n1_
              have BK550 := n2_
              have HB := n3_
              clear n0_ n1_ n2_ n3_
              obtain ⟨Ao79, co79, eo79⟩ := Kd.R_slice HO_4.out
              (first | subst eo79 | (injection eo79 with f1_ f2_ f3_; have f4_ := f1_.symm; have f5_ := f3_.symm; clear f1_ f2_ f3_; subst f4_; subst f5_))
              have p556 : 0 ≤ (0 : Int) := (by omega)
              have q556 : 0 < (t545.length : Int) := of_decide_eq_true (by first | (with_reducible assumption) | assumption)
              obtain ⟨ad556, e556, hx556_0, hx556_1, hx556_2, hx556_3, hx556_4⟩ := at_T30 (Kd.R_reads' HO_4.out).2.2 0 p556 q556
              cases e556
              have qi556 : (0 < t545.length) = True := eq_true (by omega)
              (try rw [show ((0 : Int)).toNat = 0 from rfl] at hx556_0)
              (try rw [show 0 * 5 = 0 from rfl] at hx556_0)
              (try rw [Addr.add_zero'] at hx556_0)
              (try rw [show ((0 : Int)).toNat = 0 from rfl] at hx556_1)
              (try rw [show 0 * 5 = 0 from rfl] at hx556_1)
              (try rw [Addr.add_zero'] at hx556_1)
              (try rw [show ((0 : Int)).toNat = 0 from rfl] at hx556_2)
              (try rw [show 0 * 5 = 0 from rfl] at hx556_2)
              (try rw [Addr.add_zero'] at hx556_2)
              (try rw [show ((0 : Int)).toNat = 0 from rfl] at hx556_3)
              (try rw [show 0 * 5 = 0 from rfl] at hx556_3)
              (try rw [Addr.add_zero'] at hx556_3)
              (try rw [show ((0 : Int)).toNat = 0 from rfl] at hx556_4)
              (try rw [show 0 * 5 = 0 from rfl] at hx556_4)
              (try rw [Addr.add_zero'] at hx556_4)
              replace p556 := eq_true p556
              replace q556 := eq_true q556
              have p557 : 0 ≤ (0 : Int) := (by omega)
              have q557 : 0 < (t545.length : Int) := of_decide_eq_true (by first | (with_reducible assumption) | assumption)
              obtain ⟨ad557, e557, hx557_0, hx557_1, hx557_2, hx557_3, hx557_4⟩ := at_T30 (Kd.R_reads' HO_4.out).2.2 0 p557 q557
              obtain rfl : ad556 = ad557 := (by injection e557)
              have qi557 : (0 < t545.length) = True := eq_true (by omega)
              (try rw [show ((0 : Int)).toNat = 0 from rfl] at hx557_0)
              (try rw [show 0 * 5 = 0 from rfl] at hx557_0)
              (try rw [Addr.add_zero'] at hx557_0)
              (try rw [show ((0 : Int)).toNat = 0 from rfl] at hx557_1)
              (try rw [show 0 * 5 = 0 from rfl] at hx557_1)
              (try rw [Addr.add_zero'] at hx557_1)
              (try rw [show ((0 : Int)).toNat = 0 from rfl] at hx557_2)
              (try rw [show 0 * 5 = 0 from rfl] at hx557_2)
              (try rw [Addr.add_zero'] at hx557_2)
              (try rw [show ((0 : Int)).toNat = 0 from rfl] at hx557_3)
              (try rw [show 0 * 5 = 0 from rfl] at hx557_3)
              (try rw [Addr.add_zero'] at hx557_3)
              (try rw [show ((0 : Int)).toNat = 0 from rfl] at hx557_4)
              (try rw [show 0 * 5 = 0 from rfl] at hx557_4)
              (try rw [Addr.add_zero'] at hx557_4)
              replace p557 := eq_true p557
              replace q557 := eq_true q557
              refine start_ (n := 18) (S := fun w' => w'.cell? ⟨gb543, 0, none⟩ = some (.bool true) ∧ w'.cell? ⟨gb543, 1, none⟩ = some (.int .i64 a0_1) ∧ w'.cell? ⟨gb543, 2, none⟩ = some (.int .u64 a0_2) ∧ w'.cell? ad556 = some (.int .i64 ((rd_T30 t545 0).f0)) ∧ w'.cell? ⟨ad556.block, ad556.off + 1, none⟩ = some (.int .i64 ((rd_T30 t545 0).f1)) ∧ w'.cell? ⟨ad556.block, ad556.off + 2, none⟩ = some (.string ((rd_T30 t545 0).f2)) ∧ w'.cell? ⟨ad556.block, ad556.off + 3, none⟩ = some (.int .i64 ((rd_T30 t545 0).f3)) ∧ w'.cell? ⟨ad556.block, ad556.off + 4, none⟩ = some (.int .u64 ((rd_T30 t545 0).f4)) ∧ w'.cell? ad556 = some (.int .i64 ((rd_T30 t545 0).f0)) ∧ w'.cell? ⟨ad556.block, ad556.off + 1, none⟩ = some (.int .i64 ((rd_T30 t545 0).f1)) ∧ w'.cell? ⟨ad556.block, ad556.off + 2, none⟩ = some (.string ((rd_T30 t545 0).f2)) ∧ w'.cell? ⟨ad556.block, ad556.off + 3, none⟩ = some (.int .i64 ((rd_T30 t545 0).f3)) ∧ w'.cell? ⟨ad556.block, ad556.off + 4, none⟩ = some (.int .u64 ((rd_T30 t545 0).f4))) (ds := []) #[false, false, false, false, false, false, false, false, false, false, false, false, false, false, false, false, false, false] (by kernel_rfl) rfl rfl ⟨(blk_cell BK543.out 0).trans rfl, (blk_cell BK543.out 1).trans rfl, (blk_cell BK543.out 2).trans rfl, hx556_0, hx556_1, hx556_2, hx556_3, hx556_4, hx557_0, hx557_1, hx557_2, hx557_3, hx557_4⟩ (fun hHeld => ?_); refine with_tabW casketlaw11_LexNumbers.tab12 casketlaw11_LexNumbers.bits12 (fun HT_ HW_ => ?_)
              generalize wc.drew = w78 at HO_4 BK543 BK550 HB hx556_0 hx556_1 hx556_2 hx556_3 hx556_4 hx557_0 hx557_1 hx557_2 hx557_3 hx557_4 hHeld ⊢
              refine pure_ (i := 0) (N := some 82) (v := ?_) (a' := ?_) #[true, false, false, false, false, false, false, false, false, false, false, false, false, false, false, false, false, false] rfl rfl (any_of HT_.out (by kernel_rfl)) (fun _ _ _ h => h) (Or.inl ⟨by rfl, ?_⟩) ?_ ?_
              rotate_left
              ·intro w'
               go_simp
               with_reducible rfl
              rotate_left
              ·simp only [Act.put, List.setIfInBounds_toArray, List.set_cons_zero, List.set_cons_succ, i64_w, i32_w]
               rfl
              refine pure_ (i := 1) (N := some 83) (v := ?_) (a' := ?_) #[true, true, false, false, false, false, false, false, false, false, false, false, false, false, false, false, false, false] rfl rfl (any_of HT_.out (by kernel_rfl)) (fun _ _ _ h => h) (Or.inl ⟨by rfl, ?_⟩) ?_ ?_
              rotate_left
              ·intro w'
               go_simp
               with_reducible rfl
              rotate_left
              ·simp only [Act.put, List.setIfInBounds_toArray, List.set_cons_zero, List.set_cons_succ, i64_w, i32_w]
               rfl
              refine pure_ (i := 2) (N := some 84) (v := ?_) (a' := ?_) #[true, true, true, false, false, false, false, false, false, false, false, false, false, false, false, false, false, false] rfl rfl (any_of HT_.out (by kernel_rfl)) (fun _ _ _ h => h) (Or.inl ⟨by rfl, ?_⟩) ?_ ?_
              rotate_left
              ·intro w'
               go_simp
               with_reducible rfl
              rotate_left
              ·simp only [Act.put, List.setIfInBounds_toArray, List.set_cons_zero, List.set_cons_succ, i64_w, i32_w]
               rfl
              refine take_ (i := 3) (N := some 85) (v := ?_) (a' := ?_) #[true, true, true, true, false, false, false, false, false, false, false, false, false, false, false, false, false, false] rfl rfl (take_ofW HT_.out HW_.out (by kernel_rfl)) (fun _ _ _ h => h) (Or.inl ⟨by rfl, ?_⟩) hHeld ?_ ?_
              rotate_left
              ·rintro w' ⟨s0, s1, s2, s3, s4, s5, s6, s7, s8, s9, s10, s11, s12⟩
               go_simp
               with_reducible rfl
              rotate_left
              ·simp only [Act.put, List.setIfInBounds_toArray, List.set_cons_zero, List.set_cons_succ, i64_w, i32_w]
               rfl
              refine pure_ (i := 4) (N := some 86) (v := ?_) (a' := ?_) #[true, true, true, true, true, false, false, false, false, false, false, false, false, false, false, false, false, false] rfl rfl (any_of HT_.out (by kernel_rfl)) (fun _ _ _ h => h) (Or.inl ⟨by rfl, ?_⟩) ?_ ?_
              rotate_left
              ·intro w'
               go_simp
               with_reducible rfl
              rotate_left
              ·simp only [Act.put, List.setIfInBounds_toArray, List.set_cons_zero, List.set_cons_succ, i64_w, i32_w]
               rfl
              refine pure_ (i := 5) (N := some 87) (v := ?_) (a' := ?_) #[true, true, true, true, true, true, false, false, false, false, false, false, false, false, false, false, false, false] rfl rfl (any_of HT_.out (by kernel_rfl)) (fun _ _ _ h => h) (Or.inl ⟨by rfl, ?_⟩) ?_ ?_
              rotate_left
              ·intro w'
               go_simp
               with_reducible rfl
              rotate_left
              ·simp only [Act.put, List.setIfInBounds_toArray, List.set_cons_zero, List.set_cons_succ, i64_w, i32_w]
               rfl
              refine pure_ (i := 6) (N := some 88) (v := ?_) (a' := ?_) #[true, true, true, true, true, true, true, false, false, false, false, false, false, false, false, false, false, false] rfl rfl (any_of HT_.out (by kernel_rfl)) (fun _ _ _ h => h) (Or.inl ⟨by rfl, ?_⟩) ?_ ?_
              rotate_left
              ·intro w'
               go_simp
               with_reducible rfl
              rotate_left
              ·simp only [Act.put, List.setIfInBounds_toArray, List.set_cons_zero, List.set_cons_succ, i64_w, i32_w]
               rfl
              refine pure_ (i := 7) (N := some 89) (v := ?_) (a' := ?_) #[true, true, true, true, true, true, true, true, false, false, false, false, false, false, false, false, false, false] rfl rfl (any_of HT_.out (by kernel_rfl)) (fun _ _ _ h => h) (Or.inl ⟨by rfl, ?_⟩) ?_ ?_
              rotate_left
              ·intro w'
               go_simp
               with_reducible rfl
              rotate_left
              ·simp only [Act.put, List.setIfInBounds_toArray, List.set_cons_zero, List.set_cons_succ, i64_w, i32_w]
               rfl
              refine pure_ (i := 8) (N := some 90) (v := ?_) (a' := ?_) #[true, true, true, true, true, true, true, true, true, false, false, false, false, false, false, false, false, false] rfl rfl (any_of HT_.out (by kernel_rfl)) (fun _ _ _ h => h) (Or.inl ⟨by rfl, ?_⟩) ?_ ?_
              rotate_left
              ·intro w'
               go_simp
               with_reducible rfl
              rotate_left
              ·simp only [Act.put, List.setIfInBounds_toArray, List.set_cons_zero, List.set_cons_succ, i64_w, i32_w]
               rfl
              refine pure_ (i := 10) (N := some 92) (v := ?_) (a' := ?_) #[true, true, true, true, true, true, true, true, true, false, true, false, false, false, false, false, false, false] rfl rfl (any_of HT_.out (by kernel_rfl)) (fun _ _ _ h => h) (Or.inl ⟨by rfl, ?_⟩) ?_ ?_
              rotate_left
              ·intro w'
               go_simp
               with_reducible rfl
              rotate_left
              ·simp only [Act.put, List.setIfInBounds_toArray, List.set_cons_zero, List.set_cons_succ, i64_w, i32_w]
               rfl
              refine take_ (i := 9) (N := some 91) (v := ?_) (a' := ?_) #[true, true, true, true, true, true, true, true, true, true, true, false, false, false, false, false, false, false] rfl rfl (take_ofW HT_.out HW_.out (by kernel_rfl)) (fun _ _ _ h => h) (Or.inl ⟨by rfl, ?_⟩) hHeld ?_ ?_
              rotate_left
              ·rintro w' ⟨s0, s1, s2, s3, s4, s5, s6, s7, s8, s9, s10, s11, s12⟩
               go_simp
               with_reducible rfl
              rotate_left
              ·simp only [Act.put, List.setIfInBounds_toArray, List.set_cons_zero, List.set_cons_succ, i64_w, i32_w]
               rfl
              refine take_ (i := 11) (N := some 93) (v := ?_) (a' := ?_) #[true, true, true, true, true, true, true, true, true, true, true, true, false, false, false, false, false, false] rfl rfl (take_ofW HT_.out HW_.out (by kernel_rfl)) (fun _ _ _ h => h) (Or.inl ⟨by rfl, ?_⟩) hHeld ?_ ?_
              rotate_left
              ·rintro w' ⟨s0, s1, s2, s3, s4, s5, s6, s7, s8, s9, s10, s11, s12⟩
               go_simp
               with_reducible rfl
              rotate_left
              ·simp only [Act.put, List.setIfInBounds_toArray, List.set_cons_zero, List.set_cons_succ, i64_w, i32_w]
               rfl
              refine pure_ (i := 12) (N := some 94) (v := ?_) (a' := ?_) #[true, true, true, true, true, true, true, true, true, true, true, true, true, false, false, false, false, false] rfl rfl (any_of HT_.out (by kernel_rfl)) (fun _ _ _ h => h) (Or.inl ⟨by rfl, ?_⟩) ?_ ?_
              rotate_left
              ·intro w'
               go_simp
               with_reducible rfl
              rotate_left
              ·simp only [Act.put, List.setIfInBounds_toArray, List.set_cons_zero, List.set_cons_succ, i64_w, i32_w]
               rfl
              refine pure_ (i := 13) (N := some 95) (v := ?_) (a' := ?_) #[true, true, true, true, true, true, true, true, true, true, true, true, true, true, false, false, false, false] rfl rfl (any_of HT_.out (by kernel_rfl)) (fun _ _ _ h => h) (Or.inl ⟨by rfl, ?_⟩) ?_ ?_
              rotate_left
              ·intro w'
               go_simp
               with_reducible rfl
              rotate_left
              ·simp only [Act.put, List.setIfInBounds_toArray, List.set_cons_zero, List.set_cons_succ, i64_w, i32_w]
               rfl
              refine pure_ (i := 14) (N := some 96) (v := ?_) (a' := ?_) #[true, true, true, true, true, true, true, true, true, true, true, true, true, true, true, false, false, false] rfl rfl (any_of HT_.out (by kernel_rfl)) (fun _ _ _ h => h) (Or.inl ⟨by rfl, ?_⟩) ?_ ?_
              rotate_left
              ·intro w'
               go_simp
               with_reducible rfl
              rotate_left
              ·simp only [Act.put, List.setIfInBounds_toArray, List.set_cons_zero, List.set_cons_succ, i64_w, i32_w]
               rfl
              refine one_ (i := 15) (N := some 97) #[true, true, true, true, true, true, true, true, true, true, true, true, true, true, true, true, false, false] rfl rfl (one_of HT_.out (by kernel_rfl)) (by decide) (fun K hK => ?_)
              refine goes_ Tryd.func12 (by kernel_rfl) rfl #[] (by rfl) rfl rfl (by (try simp only [List.map_toArray, List.map_cons, List.map_nil]); first | done | rfl | (simp only [List.length_drop, List.length_take]; rfl)) ?_
              with_reducible refine (casketlaw11_awake.calls (hG := (by first | exact Glob.at_ HG0.out (by repeat (first | (with_reducible first | exact HB.out | apply below_alloc | apply pw_below_drewN | apply below_drew1 | refine below_set ?_ GE543.out | refine below_set ?_ GE550.out) | exact HB.out)) | exact Glob.at_ HG0.out (Below.refl _ _)))  t558 _ A75.out).mono ?_
              rintro e w80 ⟨rfl, hb⟩
              have HS3_ := (hb.cell (World.block_lt_of_cell? _ _ (hHeld.2.2.2.1))).trans (hHeld.2.2.2.1)
              have HS4_ := (hb.cell (World.block_lt_of_cell? _ _ (hHeld.2.2.2.2.1))).trans (hHeld.2.2.2.2.1)
              have HS5_ := (hb.cell (World.block_lt_of_cell? _ _ (hHeld.2.2.2.2.2.1))).trans (hHeld.2.2.2.2.2.1)
              have HS6_ := (hb.cell (World.block_lt_of_cell? _ _ (hHeld.2.2.2.2.2.2.1))).trans (hHeld.2.2.2.2.2.2.1)
              have HS7_ := (hb.cell (World.block_lt_of_cell? _ _ (hHeld.2.2.2.2.2.2.2.1))).trans (hHeld.2.2.2.2.2.2.2.1)
              have HS8_ := (hb.cell (World.block_lt_of_cell? _ _ (hHeld.2.2.2.2.2.2.2.2.1))).trans (hHeld.2.2.2.2.2.2.2.2.1)
              have HS9_ := (hb.cell (World.block_lt_of_cell? _ _ (hHeld.2.2.2.2.2.2.2.2.2.1))).trans (hHeld.2.2.2.2.2.2.2.2.2.1)
              have HS10_ := (hb.cell (World.block_lt_of_cell? _ _ (hHeld.2.2.2.2.2.2.2.2.2.2.1))).trans (hHeld.2.2.2.2.2.2.2.2.2.2.1)
              have HS11_ := (hb.cell (World.block_lt_of_cell? _ _ (hHeld.2.2.2.2.2.2.2.2.2.2.2.1))).trans (hHeld.2.2.2.2.2.2.2.2.2.2.2.1)
              have HS12_ := (hb.cell (World.block_lt_of_cell? _ _ (hHeld.2.2.2.2.2.2.2.2.2.2.2.2))).trans (hHeld.2.2.2.2.2.2.2.2.2.2.2.2)
              refine ⟨_, rfl, ?_⟩
              have n0_ := Aside0.mk (Kd.R_below (by (with_reducible repeat (first | apply Kd.R_alloc | apply Kd.R_drewN | apply Kd.R_drew)); exact HO_4.out) hb)
              have n1_ := Aside0.mk (blk_below (g := gb543) (o := .cells #[.bool true, .int .i64 a0_1, .int .u64 a0_2] 42 (0, 0)) (by (with_reducible repeat (first | refine blk_drewN ?_ _ | refine blk_drew ?_ | refine blk_alloc ?_ _)); exact BK543.out) hb)
              have n2_ := Aside0.mk (blk_below (g := gb550) (o := .cells #[.int .i64 t548, .int .i64 t549] 25 (0, 0)) (by (with_reducible repeat (first | refine blk_drewN ?_ _ | refine blk_drew ?_ | refine blk_alloc ?_ _)); exact BK550.out) hb)
              have n3_ := Aside0.mk (below_step (by repeat (first | (with_reducible first | exact HB.out | apply below_alloc | apply pw_below_drewN | apply below_drew1 | refine below_set ?_ GE543.out | refine below_set ?_ GE550.out) | exact HB.out)) hb)
              clear HO_4
              clear BK543
              clear BK550
              clear HB
              have HO_4 := n0_
              have BK543 := n1_
              have BK550 := n2_
              have HB := n3_
              clear n0_ n1_ n2_ n3_
              (try clear hb)
              (try clear hb2)
              (try clear hk)
              (try clear hi)
              refine hK.out _ _ ⟨(blk_cell BK543.out 0).trans rfl, (blk_cell BK543.out 1).trans rfl, (blk_cell BK543.out 2).trans rfl, HS3_, HS4_, HS5_, HS6_, HS7_, HS8_, HS9_, HS10_, HS11_, HS12_⟩ (fun hHeld => ?_)
              clear hK K
              refine norm_ (a' := ?_) ?_ ?_
              rotate_left
              ·show Act.put _ (some 97) _ = _
               simp only [Act.put, List.setIfInBounds_toArray, List.set_cons_zero, List.set_cons_succ, i64_w, i32_w]
               rfl
              refine pure_ (i := 16) (N := some 98) (v := ?_) (a' := ?_) #[true, true, true, true, true, true, true, true, true, true, true, true, true, true, true, true, true, false] rfl rfl (any_of HT_.out (by kernel_rfl)) (fun _ _ _ h => h) (Or.inl ⟨by rfl, ?_⟩) ?_ ?_
              rotate_left
              ·intro w'
               go_simp
               with_reducible rfl
              rotate_left
              ·simp only [Act.put, List.setIfInBounds_toArray, List.set_cons_zero, List.set_cons_succ, i64_w, i32_w]
               rfl
              refine pure_ (i := 17) (N := some 2) (v := ?_) (a' := ?_) #[true, true, true, true, true, true, true, true, true, true, true, true, true, true, true, true, true, true] rfl rfl (any_of HT_.out (by kernel_rfl)) (fun _ _ _ h => h) (Or.inl ⟨by rfl, ?_⟩) ?_ ?_
              rotate_left
              ·intro w'
               go_simp
               with_reducible rfl
              rotate_left
              ·simp only [Act.put, List.setIfInBounds_toArray, List.set_cons_zero, List.set_cons_succ, i64_w, i32_w]
               rfl
              refine done_ (done_of HT_.out (by kernel_rfl)) ?_
              try go_wp2
              go_ret
              exact ⟨by first | rfl | (simp [errW_none, errW_some] <;> rfl) | (simp [*, errW_none, errW_some] <;> rfl), by repeat (first | (with_reducible first | exact HB.out | apply below_alloc | apply pw_below_drewN | apply below_drew1 | refine below_set ?_ GE543.out | refine below_set ?_ GE550.out) | exact HB.out)⟩
             ·rw [if_neg c74] at H
              have c74b0 : (((rd_T30 t545 0).f3) == a0_1) = false := beq_eq_false_iff_ne.mpr c74
              have c74b1 : (((rd_T30 t545 0).f3) != a0_1) = true := bne_iff_ne.mpr c74
              obtain rfl := Option.some.inj H
              have hnb81 := NB543_550.out
              have hnc81 := NB550_543.out
              have hcz82_0 : wc.cell? ⟨gb543, 0, none⟩ = some (.bool true) := (blk_cell BK543.out 0).trans rfl
              have hcz82_1 : wc.cell? ⟨gb543, 1, none⟩ = some (.int .i64 a0_1) := (blk_cell BK543.out 1).trans rfl
              have hcz82_2 : wc.cell? ⟨gb543, 2, none⟩ = some (.int .u64 a0_2) := (blk_cell BK543.out 2).trans rfl
              have hfz82_0 := blk_frozen BK543.out 0
              have hfz82_1 := blk_frozen BK543.out 1
              have hfz82_2 := blk_frozen BK543.out 2
              try go_wp2
              have n0_ := Aside0.mk (Kd.R_drew HO_4.out)
              have n1_ := Aside0.mk (blk_drew BK543.out)
              have n2_ := Aside0.mk (blk_drew BK550.out)
              have n3_ := Aside0.mk (below_drew1 HB.out)
              clear HO_4
              clear BK543
              clear BK550
              clear HB
              have HO_4 := n0_
              have BK543 := n1_
              have BK550 := n2_
              have HB := n3_
              clear n0_ n1_ n2_ n3_
              obtain ⟨Ao84, co84, eo84⟩ := Kd.R_slice HO_4.out
              (first | subst eo84 | (injection eo84 with f1_ f2_ f3_; have f4_ := f1_.symm; have f5_ := f3_.symm; clear f1_ f2_ f3_; subst f4_; subst f5_))
              have p556 : 0 ≤ (0 : Int) := (by omega)
              have q556 : 0 < (t545.length : Int) := of_decide_eq_true (by first | (with_reducible assumption) | assumption)
              obtain ⟨ad556, e556, hx556_0, hx556_1, hx556_2, hx556_3, hx556_4⟩ := at_T30 (Kd.R_reads' HO_4.out).2.2 0 p556 q556
              cases e556
              have qi556 : (0 < t545.length) = True := eq_true (by omega)
              (try rw [show ((0 : Int)).toNat = 0 from rfl] at hx556_0)
              (try rw [show 0 * 5 = 0 from rfl] at hx556_0)
              (try rw [Addr.add_zero'] at hx556_0)
              (try rw [show ((0 : Int)).toNat = 0 from rfl] at hx556_1)
              (try rw [show 0 * 5 = 0 from rfl] at hx556_1)
              (try rw [Addr.add_zero'] at hx556_1)
              (try rw [show ((0 : Int)).toNat = 0 from rfl] at hx556_2)
              (try rw [show 0 * 5 = 0 from rfl] at hx556_2)
              (try rw [Addr.add_zero'] at hx556_2)
              (try rw [show ((0 : Int)).toNat = 0 from rfl] at hx556_3)
              (try rw [show 0 * 5 = 0 from rfl] at hx556_3)
              (try rw [Addr.add_zero'] at hx556_3)
              (try rw [show ((0 : Int)).toNat = 0 from rfl] at hx556_4)
              (try rw [show 0 * 5 = 0 from rfl] at hx556_4)
              (try rw [Addr.add_zero'] at hx556_4)
              replace p556 := eq_true p556
              replace q556 := eq_true q556
              have p557 : 0 ≤ (0 : Int) := (by omega)
              have q557 : 0 < (t545.length : Int) := of_decide_eq_true (by first | (with_reducible assumption) | assumption)
              obtain ⟨ad557, e557, hx557_0, hx557_1, hx557_2, hx557_3, hx557_4⟩ := at_T30 (Kd.R_reads' HO_4.out).2.2 0 p557 q557
              obtain rfl : ad556 = ad557 := (by injection e557)
              have qi557 : (0 < t545.length) = True := eq_true (by omega)
              (try rw [show ((0 : Int)).toNat = 0 from rfl] at hx557_0)
              (try rw [show 0 * 5 = 0 from rfl] at hx557_0)
              (try rw [Addr.add_zero'] at hx557_0)
              (try rw [show ((0 : Int)).toNat = 0 from rfl] at hx557_1)
              (try rw [show 0 * 5 = 0 from rfl] at hx557_1)
              (try rw [Addr.add_zero'] at hx557_1)
              (try rw [show ((0 : Int)).toNat = 0 from rfl] at hx557_2)
              (try rw [show 0 * 5 = 0 from rfl] at hx557_2)
              (try rw [Addr.add_zero'] at hx557_2)
              (try rw [show ((0 : Int)).toNat = 0 from rfl] at hx557_3)
              (try rw [show 0 * 5 = 0 from rfl] at hx557_3)
              (try rw [Addr.add_zero'] at hx557_3)
              (try rw [show ((0 : Int)).toNat = 0 from rfl] at hx557_4)
              (try rw [show 0 * 5 = 0 from rfl] at hx557_4)
              (try rw [Addr.add_zero'] at hx557_4)
              replace p557 := eq_true p557
              replace q557 := eq_true q557
              refine start_ (n := 18) (S := fun w' => w'.cell? ⟨gb543, 0, none⟩ = some (.bool true) ∧ w'.cell? ⟨gb543, 1, none⟩ = some (.int .i64 a0_1) ∧ w'.cell? ⟨gb543, 2, none⟩ = some (.int .u64 a0_2) ∧ w'.cell? ad556 = some (.int .i64 ((rd_T30 t545 0).f0)) ∧ w'.cell? ⟨ad556.block, ad556.off + 1, none⟩ = some (.int .i64 ((rd_T30 t545 0).f1)) ∧ w'.cell? ⟨ad556.block, ad556.off + 2, none⟩ = some (.string ((rd_T30 t545 0).f2)) ∧ w'.cell? ⟨ad556.block, ad556.off + 3, none⟩ = some (.int .i64 ((rd_T30 t545 0).f3)) ∧ w'.cell? ⟨ad556.block, ad556.off + 4, none⟩ = some (.int .u64 ((rd_T30 t545 0).f4)) ∧ w'.cell? ad556 = some (.int .i64 ((rd_T30 t545 0).f0)) ∧ w'.cell? ⟨ad556.block, ad556.off + 1, none⟩ = some (.int .i64 ((rd_T30 t545 0).f1)) ∧ w'.cell? ⟨ad556.block, ad556.off + 2, none⟩ = some (.string ((rd_T30 t545 0).f2)) ∧ w'.cell? ⟨ad556.block, ad556.off + 3, none⟩ = some (.int .i64 ((rd_T30 t545 0).f3)) ∧ w'.cell? ⟨ad556.block, ad556.off + 4, none⟩ = some (.int .u64 ((rd_T30 t545 0).f4))) (ds := []) #[false, false, false, false, false, false, false, false, false, false, false, false, false, false, false, false, false, false] (by kernel_rfl) rfl rfl ⟨(blk_cell BK543.out 0).trans rfl, (blk_cell BK543.out 1).trans rfl, (blk_cell BK543.out 2).trans rfl, hx556_0, hx556_1, hx556_2, hx556_3, hx556_4, hx557_0, hx557_1, hx557_2, hx557_3, hx557_4⟩ (fun hHeld => ?_); refine with_tabW casketlaw11_LexNumbers.tab12 casketlaw11_LexNumbers.bits12 (fun HT_ HW_ => ?_)
              generalize wc.drew = w83 at HO_4 BK543 BK550 HB hx556_0 hx556_1 hx556_2 hx556_3 hx556_4 hx557_0 hx557_1 hx557_2 hx557_3 hx557_4 hHeld ⊢
              refine pure_ (i := 0) (N := some 82) (v := ?_) (a' := ?_) #[true, false, false, false, false, false, false, false, false, false, false, false, false, false, false, false, false, false] rfl rfl (any_of HT_.out (by kernel_rfl)) (fun _ _ _ h => h) (Or.inl ⟨by rfl, ?_⟩) ?_ ?_
              rotate_left
              ·intro w'
               go_simp
               with_reducible rfl
              rotate_left
              ·simp only [Act.put, List.setIfInBounds_toArray, List.set_cons_zero, List.set_cons_succ, i64_w, i32_w]
               rfl
              refine pure_ (i := 1) (N := some 83) (v := ?_) (a' := ?_) #[true, true, false, false, false, false, false, false, false, false, false, false, false, false, false, false, false, false] rfl rfl (any_of HT_.out (by kernel_rfl)) (fun _ _ _ h => h) (Or.inl ⟨by rfl, ?_⟩) ?_ ?_
              rotate_left
              ·intro w'
               go_simp
               with_reducible rfl
              rotate_left
              ·simp only [Act.put, List.setIfInBounds_toArray, List.set_cons_zero, List.set_cons_succ, i64_w, i32_w]
               rfl
              refine pure_ (i := 2) (N := some 84) (v := ?_) (a' := ?_) #[true, true, true, false, false, false, false, false, false, false, false, false, false, false, false, false, false, false] rfl rfl (any_of HT_.out (by kernel_rfl)) (fun _ _ _ h => h) (Or.inl ⟨by rfl, ?_⟩) ?_ ?_
              rotate_left
              ·intro w'
               go_simp
               with_reducible rfl
              rotate_left
              ·simp only [Act.put, List.setIfInBounds_toArray, List.set_cons_zero, List.set_cons_succ, i64_w, i32_w]
               rfl
              refine take_ (i := 3) (N := some 85) (v := ?_) (a' := ?_) #[true, true, true, true, false, false, false, false, false, false, false, false, false, false, false, false, false, false] rfl rfl (take_ofW HT_.out HW_.out (by kernel_rfl)) (fun _ _ _ h => h) (Or.inl ⟨by rfl, ?_⟩) hHeld ?_ ?_
              rotate_left
              ·rintro w' ⟨s0, s1, s2, s3, s4, s5, s6, s7, s8, s9, s10, s11, s12⟩
               go_simp
               with_reducible rfl
              rotate_left
              ·simp only [Act.put, List.setIfInBounds_toArray, List.set_cons_zero, List.set_cons_succ, i64_w, i32_w]
               rfl
              refine pure_ (i := 4) (N := some 86) (v := ?_) (a' := ?_) #[true, true, true, true, true, false, false, false, false, false, false, false, false, false, false, false, false, false] rfl rfl (any_of HT_.out (by kernel_rfl)) (fun _ _ _ h => h) (Or.inl ⟨by rfl, ?_⟩) ?_ ?_
              rotate_left
              ·intro w'
               go_simp
               with_reducible rfl
              rotate_left
              ·simp only [Act.put, List.setIfInBounds_toArray, List.set_cons_zero, List.set_cons_succ, i64_w, i32_w]
               rfl
              refine pure_ (i := 5) (N := some 87) (v := ?_) (a' := ?_) #[true, true, true, true, true, true, false, false, false, false, false, false, false, false, false, false, false, false] rfl rfl (any_of HT_.out (by kernel_rfl)) (fun _ _ _ h => h) (Or.inl ⟨by rfl, ?_⟩) ?_ ?_
              rotate_left
              ·intro w'
               go_simp
               with_reducible rfl
              rotate_left
              ·simp only [Act.put, List.setIfInBounds_toArray, List.set_cons_zero, List.set_cons_succ, i64_w, i32_w]
               rfl
              refine pure_ (i := 6) (N := some 88) (v := ?_) (a' := ?_) #[true, true, true, true, true, true, true, false, false, false, false, false, false, false, false, false, false, false] rfl rfl (any_of HT_.out (by kernel_rfl)) (fun _ _ _ h => h) (Or.inl ⟨by rfl, ?_⟩) ?_ ?_
              rotate_left
              ·intro w'
               go_simp
               with_reducible rfl
              rotate_left
              ·simp only [Act.put, List.setIfInBounds_toArray, List.set_cons_zero, List.set_cons_succ, i64_w, i32_w]
               rfl
              refine pure_ (i := 7) (N := some 89) (v := ?_) (a' := ?_) #[true, true, true, true, true, true, true, true, false, false, false, false, false, false, false, false, false, false] rfl rfl (any_of HT_.out (by kernel_rfl)) (fun _ _ _ h => h) (Or.inl ⟨by rfl, ?_⟩) ?_ ?_
              rotate_left
              ·intro w'
               go_simp
               with_reducible rfl
              rotate_left
              ·simp only [Act.put, List.setIfInBounds_toArray, List.set_cons_zero, List.set_cons_succ, i64_w, i32_w]
               rfl
              refine pure_ (i := 8) (N := some 90) (v := ?_) (a' := ?_) #[true, true, true, true, true, true, true, true, true, false, false, false, false, false, false, false, false, false] rfl rfl (any_of HT_.out (by kernel_rfl)) (fun _ _ _ h => h) (Or.inl ⟨by rfl, ?_⟩) ?_ ?_
              rotate_left
              ·intro w'
               go_simp
               with_reducible rfl
              rotate_left
              ·simp only [Act.put, List.setIfInBounds_toArray, List.set_cons_zero, List.set_cons_succ, i64_w, i32_w]
               rfl
              refine pure_ (i := 10) (N := some 92) (v := ?_) (a' := ?_) #[true, true, true, true, true, true, true, true, true, false, true, false, false, false, false, false, false, false] rfl rfl (any_of HT_.out (by kernel_rfl)) (fun _ _ _ h => h) (Or.inl ⟨by rfl, ?_⟩) ?_ ?_
              rotate_left
              ·intro w'
               go_simp
               with_reducible rfl
              rotate_left
              ·simp only [Act.put, List.setIfInBounds_toArray, List.set_cons_zero, List.set_cons_succ, i64_w, i32_w]
               rfl
              refine take_ (i := 9) (N := some 91) (v := ?_) (a' := ?_) #[true, true, true, true, true, true, true, true, true, true, true, false, false, false, false, false, false, false] rfl rfl (take_ofW HT_.out HW_.out (by kernel_rfl)) (fun _ _ _ h => h) (Or.inl ⟨by rfl, ?_⟩) hHeld ?_ ?_
              rotate_left
              ·rintro w' ⟨s0, s1, s2, s3, s4, s5, s6, s7, s8, s9, s10, s11, s12⟩
               go_simp
               with_reducible rfl
              rotate_left
              ·simp only [Act.put, List.setIfInBounds_toArray, List.set_cons_zero, List.set_cons_succ, i64_w, i32_w]
               rfl
              refine take_ (i := 11) (N := some 93) (v := ?_) (a' := ?_) #[true, true, true, true, true, true, true, true, true, true, true, true, false, false, false, false, false, false] rfl rfl (take_ofW HT_.out HW_.out (by kernel_rfl)) (fun _ _ _ h => h) (Or.inl ⟨by rfl, ?_⟩) hHeld ?_ ?_
              rotate_left
              ·rintro w' ⟨s0, s1, s2, s3, s4, s5, s6, s7, s8, s9, s10, s11, s12⟩
               go_simp
               with_reducible rfl
              rotate_left
              ·simp only [Act.put, List.setIfInBounds_toArray, List.set_cons_zero, List.set_cons_succ, i64_w, i32_w]
               rfl
              refine pure_ (i := 12) (N := some 94) (v := ?_) (a' := ?_) #[true, true, true, true, true, true, true, true, true, true, true, true, true, false, false, false, false, false] rfl rfl (any_of HT_.out (by kernel_rfl)) (fun _ _ _ h => h) (Or.inl ⟨by rfl, ?_⟩) ?_ ?_
              rotate_left
              ·intro w'
               go_simp
               with_reducible rfl
              rotate_left
              ·simp only [Act.put, List.setIfInBounds_toArray, List.set_cons_zero, List.set_cons_succ, i64_w, i32_w]
               rfl
              refine pure_ (i := 13) (N := some 95) (v := ?_) (a' := ?_) #[true, true, true, true, true, true, true, true, true, true, true, true, true, true, false, false, false, false] rfl rfl (any_of HT_.out (by kernel_rfl)) (fun _ _ _ h => h) (Or.inl ⟨by rfl, ?_⟩) ?_ ?_
              rotate_left
              ·intro w'
               go_simp
               with_reducible rfl
              rotate_left
              ·simp only [Act.put, List.setIfInBounds_toArray, List.set_cons_zero, List.set_cons_succ, i64_w, i32_w]
               rfl
              refine pure_ (i := 14) (N := some 96) (v := ?_) (a' := ?_) #[true, true, true, true, true, true, true, true, true, true, true, true, true, true, true, false, false, false] rfl rfl (any_of HT_.out (by kernel_rfl)) (fun _ _ _ h => h) (Or.inl ⟨by rfl, ?_⟩) ?_ ?_
              rotate_left
              ·intro w'
               go_simp
               with_reducible rfl
              rotate_left
              ·simp only [Act.put, List.setIfInBounds_toArray, List.set_cons_zero, List.set_cons_succ, i64_w, i32_w]
               rfl
              refine pure_ (i := 15) (N := some 97) (v := undef) (a' := ?_) #[true, true, true, true, true, true, true, true, true, true, true, true, true, true, true, true, false, false] rfl rfl (any_of HT_.out (by kernel_rfl)) (fun _ _ _ h => h) (Or.inr ⟨by rfl, rfl⟩) ?_ ?_
              rotate_left
              ·simp only [Act.put, List.setIfInBounds_toArray, List.set_cons_zero, List.set_cons_succ, i64_w, i32_w]
               rfl
              refine pure_ (i := 16) (N := some 98) (v := ?_) (a' := ?_) #[true, true, true, true, true, true, true, true, true, true, true, true, true, true, true, true, true, false] rfl rfl (any_of HT_.out (by kernel_rfl)) (fun _ _ _ h => h) (Or.inl ⟨by rfl, ?_⟩) ?_ ?_
              rotate_left
              ·intro w'
               go_simp
               with_reducible rfl
              rotate_left
              ·simp only [Act.put, List.setIfInBounds_toArray, List.set_cons_zero, List.set_cons_succ, i64_w, i32_w]
               rfl
              refine pure_ (i := 17) (N := some 2) (v := ?_) (a' := ?_) #[true, true, true, true, true, true, true, true, true, true, true, true, true, true, true, true, true, true] rfl rfl (any_of HT_.out (by kernel_rfl)) (fun _ _ _ h => h) (Or.inl ⟨by rfl, ?_⟩) ?_ ?_
              rotate_left
              ·intro w'
               go_simp
               with_reducible rfl
              rotate_left
              ·simp only [Act.put, List.setIfInBounds_toArray, List.set_cons_zero, List.set_cons_succ, i64_w, i32_w]
               rfl
              refine done_ (done_of HT_.out (by kernel_rfl)) ?_
              try go_wp2
              go_ret
              exact ⟨by first | rfl | (simp [errW_none, errW_some] <;> rfl) | (simp [*, errW_none, errW_some] <;> rfl), by repeat (first | (with_reducible first | exact HB.out | apply below_alloc | apply pw_below_drewN | apply below_drew1 | refine below_set ?_ GE543.out | refine below_set ?_ GE550.out) | exact HB.out)⟩
            ·rw [if_neg c73] at H
             have c73b0 : (((rd_T30 t545 0).f0) == 4) = false := beq_eq_false_iff_ne.mpr c73
             have c73b1 : (((rd_T30 t545 0).f0) != 4) = true := bne_iff_ne.mpr c73
             obtain rfl := Option.some.inj H
             have hnb85 := NB543_550.out
             have hnc85 := NB550_543.out
             have hcz86_0 : wc.cell? ⟨gb543, 0, none⟩ = some (.bool true) := (blk_cell BK543.out 0).trans rfl
             have hcz86_1 : wc.cell? ⟨gb543, 1, none⟩ = some (.int .i64 a0_1) := (blk_cell BK543.out 1).trans rfl
             have hcz86_2 : wc.cell? ⟨gb543, 2, none⟩ = some (.int .u64 a0_2) := (blk_cell BK543.out 2).trans rfl
             have hfz86_0 := blk_frozen BK543.out 0
             have hfz86_1 := blk_frozen BK543.out 1
             have hfz86_2 := blk_frozen BK543.out 2
             try go_wp2
             have n0_ := Aside0.mk (Kd.R_drew HO_4.out)
             have n1_ := Aside0.mk (blk_drew BK543.out)
             have n2_ := Aside0.mk (blk_drew BK550.out)
             have n3_ := Aside0.mk (below_drew1 HB.out)
             clear HO_4
             clear BK543
             clear BK550
             clear HB
             have HO_4 := n0_
             have BK543 := n1_
             have BK550 := n2_
             have HB := n3_
             clear n0_ n1_ n2_ n3_
             obtain ⟨Ao88, co88, eo88⟩ := Kd.R_slice HO_4.out
             (first | subst eo88 | (injection eo88 with f1_ f2_ f3_; have f4_ := f1_.symm; have f5_ := f3_.symm; clear f1_ f2_ f3_; subst f4_; subst f5_))
             have p556 : 0 ≤ (0 : Int) := (by omega)
             have q556 : 0 < (t545.length : Int) := of_decide_eq_true (by first | (with_reducible assumption) | assumption)
             obtain ⟨ad556, e556, hx556_0, hx556_1, hx556_2, hx556_3, hx556_4⟩ := at_T30 (Kd.R_reads' HO_4.out).2.2 0 p556 q556
             cases e556
             have qi556 : (0 < t545.length) = True := eq_true (by omega)
             (try rw [show ((0 : Int)).toNat = 0 from rfl] at hx556_0)
             (try rw [show 0 * 5 = 0 from rfl] at hx556_0)
             (try rw [Addr.add_zero'] at hx556_0)
             (try rw [show ((0 : Int)).toNat = 0 from rfl] at hx556_1)
             (try rw [show 0 * 5 = 0 from rfl] at hx556_1)
             (try rw [Addr.add_zero'] at hx556_1)
             (try rw [show ((0 : Int)).toNat = 0 from rfl] at hx556_2)
             (try rw [show 0 * 5 = 0 from rfl] at hx556_2)
             (try rw [Addr.add_zero'] at hx556_2)
             (try rw [show ((0 : Int)).toNat = 0 from rfl] at hx556_3)
             (try rw [show 0 * 5 = 0 from rfl] at hx556_3)
             (try rw [Addr.add_zero'] at hx556_3)
             (try rw [show ((0 : Int)).toNat = 0 from rfl] at hx556_4)
             (try rw [show 0 * 5 = 0 from rfl] at hx556_4)
             (try rw [Addr.add_zero'] at hx556_4)
             replace p556 := eq_true p556
             replace q556 := eq_true q556
             refine start_ (n := 18) (S := fun w' => w'.cell? ad556 = some (.int .i64 ((rd_T30 t545 0).f0)) ∧ w'.cell? ⟨ad556.block, ad556.off + 1, none⟩ = some (.int .i64 ((rd_T30 t545 0).f1)) ∧ w'.cell? ⟨ad556.block, ad556.off + 2, none⟩ = some (.string ((rd_T30 t545 0).f2)) ∧ w'.cell? ⟨ad556.block, ad556.off + 3, none⟩ = some (.int .i64 ((rd_T30 t545 0).f3)) ∧ w'.cell? ⟨ad556.block, ad556.off + 4, none⟩ = some (.int .u64 ((rd_T30 t545 0).f4))) (ds := []) #[false, false, false, false, false, false, false, false, false, false, false, false, false, false, false, false, false, false] (by kernel_rfl) rfl rfl ⟨hx556_0, hx556_1, hx556_2, hx556_3, hx556_4⟩ (fun hHeld => ?_); refine with_tabW casketlaw11_LexNumbers.tab12 casketlaw11_LexNumbers.bits12 (fun HT_ HW_ => ?_)
             generalize wc.drew = w87 at HO_4 BK543 BK550 HB hx556_0 hx556_1 hx556_2 hx556_3 hx556_4 hHeld ⊢
             refine pure_ (i := 0) (N := some 82) (v := ?_) (a' := ?_) #[true, false, false, false, false, false, false, false, false, false, false, false, false, false, false, false, false, false] rfl rfl (any_of HT_.out (by kernel_rfl)) (fun _ _ _ h => h) (Or.inl ⟨by rfl, ?_⟩) ?_ ?_
             rotate_left
             ·intro w'
              go_simp
              with_reducible rfl
             rotate_left
             ·simp only [Act.put, List.setIfInBounds_toArray, List.set_cons_zero, List.set_cons_succ, i64_w, i32_w]
              rfl
             refine pure_ (i := 1) (N := some 83) (v := ?_) (a' := ?_) #[true, true, false, false, false, false, false, false, false, false, false, false, false, false, false, false, false, false] rfl rfl (any_of HT_.out (by kernel_rfl)) (fun _ _ _ h => h) (Or.inl ⟨by rfl, ?_⟩) ?_ ?_
             rotate_left
             ·intro w'
              go_simp
              with_reducible rfl
             rotate_left
             ·simp only [Act.put, List.setIfInBounds_toArray, List.set_cons_zero, List.set_cons_succ, i64_w, i32_w]
              rfl
             refine pure_ (i := 2) (N := some 84) (v := ?_) (a' := ?_) #[true, true, true, false, false, false, false, false, false, false, false, false, false, false, false, false, false, false] rfl rfl (any_of HT_.out (by kernel_rfl)) (fun _ _ _ h => h) (Or.inl ⟨by rfl, ?_⟩) ?_ ?_
             rotate_left
             ·intro w'
              go_simp
              with_reducible rfl
             rotate_left
             ·simp only [Act.put, List.setIfInBounds_toArray, List.set_cons_zero, List.set_cons_succ, i64_w, i32_w]
              rfl
             refine take_ (i := 3) (N := some 85) (v := ?_) (a' := ?_) #[true, true, true, true, false, false, false, false, false, false, false, false, false, false, false, false, false, false] rfl rfl (take_ofW HT_.out HW_.out (by kernel_rfl)) (fun _ _ _ h => h) (Or.inl ⟨by rfl, ?_⟩) hHeld ?_ ?_
             rotate_left
             ·rintro w' ⟨s0, s1, s2, s3, s4⟩
              go_simp
              with_reducible rfl
             rotate_left
             ·simp only [Act.put, List.setIfInBounds_toArray, List.set_cons_zero, List.set_cons_succ, i64_w, i32_w]
              rfl
             refine pure_ (i := 4) (N := some 86) (v := ?_) (a' := ?_) #[true, true, true, true, true, false, false, false, false, false, false, false, false, false, false, false, false, false] rfl rfl (any_of HT_.out (by kernel_rfl)) (fun _ _ _ h => h) (Or.inl ⟨by rfl, ?_⟩) ?_ ?_
             rotate_left
             ·intro w'
              go_simp
              with_reducible rfl
             rotate_left
             ·simp only [Act.put, List.setIfInBounds_toArray, List.set_cons_zero, List.set_cons_succ, i64_w, i32_w]
              rfl
             refine pure_ (i := 5) (N := some 87) (v := ?_) (a' := ?_) #[true, true, true, true, true, true, false, false, false, false, false, false, false, false, false, false, false, false] rfl rfl (any_of HT_.out (by kernel_rfl)) (fun _ _ _ h => h) (Or.inl ⟨by rfl, ?_⟩) ?_ ?_
             rotate_left
             ·intro w'
              go_simp
              with_reducible rfl
             rotate_left
             ·simp only [Act.put, List.setIfInBounds_toArray, List.set_cons_zero, List.set_cons_succ, i64_w, i32_w]
              rfl
             refine pure_ (i := 6) (N := some 88) (v := undef) (a' := ?_) #[true, true, true, true, true, true, true, false, false, false, false, false, false, false, false, false, false, false] rfl rfl (any_of HT_.out (by kernel_rfl)) (fun _ _ _ h => h) (Or.inr ⟨by rfl, rfl⟩) ?_ ?_
             rotate_left
             ·simp only [Act.put, List.setIfInBounds_toArray, List.set_cons_zero, List.set_cons_succ, i64_w, i32_w]
              rfl
             refine pure_ (i := 7) (N := some 89) (v := undef) (a' := ?_) #[true, true, true, true, true, true, true, true, false, false, false, false, false, false, false, false, false, false] rfl rfl (any_of HT_.out (by kernel_rfl)) (fun _ _ _ h => h) (Or.inr ⟨by rfl, rfl⟩) ?_ ?_
             rotate_left
             ·simp only [Act.put, List.setIfInBounds_toArray, List.set_cons_zero, List.set_cons_succ, i64_w, i32_w]
              rfl
             refine pure_ (i := 8) (N := some 90) (v := undef) (a' := ?_) #[true, true, true, true, true, true, true, true, true, false, false, false, false, false, false, false, false, false] rfl rfl (any_of HT_.out (by kernel_rfl)) (fun _ _ _ h => h) (Or.inr ⟨by rfl, rfl⟩) ?_ ?_
             rotate_left
             ·simp only [Act.put, List.setIfInBounds_toArray, List.set_cons_zero, List.set_cons_succ, i64_w, i32_w]
              rfl
             refine pure_ (i := 9) (N := some 91) (v := undef) (a' := ?_) #[true, true, true, true, true, true, true, true, true, true, false, false, false, false, false, false, false, false] rfl rfl (any_of HT_.out (by kernel_rfl)) (fun _ _ _ h => h) (Or.inr ⟨by rfl, rfl⟩) ?_ ?_
             rotate_left
             ·simp only [Act.put, List.setIfInBounds_toArray, List.set_cons_zero, List.set_cons_succ, i64_w, i32_w]
              rfl
             refine pure_ (i := 10) (N := some 92) (v := undef) (a' := ?_) #[true, true, true, true, true, true, true, true, true, true, true, false, false, false, false, false, false, false] rfl rfl (any_of HT_.out (by kernel_rfl)) (fun _ _ _ h => h) (Or.inr ⟨by rfl, rfl⟩) ?_ ?_
             rotate_left
             ·simp only [Act.put, List.setIfInBounds_toArray, List.set_cons_zero, List.set_cons_succ, i64_w, i32_w]
              rfl
             refine pure_ (i := 11) (N := some 93) (v := undef) (a' := ?_) #[true, true, true, true, true, true, true, true, true, true, true, true, false, false, false, false, false, false] rfl rfl (any_of HT_.out (by kernel_rfl)) (fun _ _ _ h => h) (Or.inr ⟨by rfl, rfl⟩) ?_ ?_
             rotate_left
             ·simp only [Act.put, List.setIfInBounds_toArray, List.set_cons_zero, List.set_cons_succ, i64_w, i32_w]
              rfl
             refine pure_ (i := 12) (N := some 94) (v := undef) (a' := ?_) #[true, true, true, true, true, true, true, true, true, true, true, true, true, false, false, false, false, false] rfl rfl (any_of HT_.out (by kernel_rfl)) (fun _ _ _ h => h) (Or.inr ⟨by rfl, rfl⟩) ?_ ?_
             rotate_left
             ·simp only [Act.put, List.setIfInBounds_toArray, List.set_cons_zero, List.set_cons_succ, i64_w, i32_w]
              rfl
             refine pure_ (i := 13) (N := some 95) (v := ?_) (a' := ?_) #[true, true, true, true, true, true, true, true, true, true, true, true, true, true, false, false, false, false] rfl rfl (any_of HT_.out (by kernel_rfl)) (fun _ _ _ h => h) (Or.inl ⟨by rfl, ?_⟩) ?_ ?_
             rotate_left
             ·intro w'
              go_simp
              with_reducible rfl
             rotate_left
             ·simp only [Act.put, List.setIfInBounds_toArray, List.set_cons_zero, List.set_cons_succ, i64_w, i32_w]
              rfl
             refine pure_ (i := 14) (N := some 96) (v := ?_) (a' := ?_) #[true, true, true, true, true, true, true, true, true, true, true, true, true, true, true, false, false, false] rfl rfl (any_of HT_.out (by kernel_rfl)) (fun _ _ _ h => h) (Or.inl ⟨by rfl, ?_⟩) ?_ ?_
             rotate_left
             ·intro w'
              go_simp
              with_reducible rfl
             rotate_left
             ·simp only [Act.put, List.setIfInBounds_toArray, List.set_cons_zero, List.set_cons_succ, i64_w, i32_w]
              rfl
             refine pure_ (i := 15) (N := some 97) (v := undef) (a' := ?_) #[true, true, true, true, true, true, true, true, true, true, true, true, true, true, true, true, false, false] rfl rfl (any_of HT_.out (by kernel_rfl)) (fun _ _ _ h => h) (Or.inr ⟨by rfl, rfl⟩) ?_ ?_
             rotate_left
             ·simp only [Act.put, List.setIfInBounds_toArray, List.set_cons_zero, List.set_cons_succ, i64_w, i32_w]
              rfl
             refine pure_ (i := 16) (N := some 98) (v := ?_) (a' := ?_) #[true, true, true, true, true, true, true, true, true, true, true, true, true, true, true, true, true, false] rfl rfl (any_of HT_.out (by kernel_rfl)) (fun _ _ _ h => h) (Or.inl ⟨by rfl, ?_⟩) ?_ ?_
             rotate_left
             ·intro w'
              go_simp
              with_reducible rfl
             rotate_left
             ·simp only [Act.put, List.setIfInBounds_toArray, List.set_cons_zero, List.set_cons_succ, i64_w, i32_w]
              rfl
             refine pure_ (i := 17) (N := some 2) (v := ?_) (a' := ?_) #[true, true, true, true, true, true, true, true, true, true, true, true, true, true, true, true, true, true] rfl rfl (any_of HT_.out (by kernel_rfl)) (fun _ _ _ h => h) (Or.inl ⟨by rfl, ?_⟩) ?_ ?_
             rotate_left
             ·intro w'
              go_simp
              with_reducible rfl
             rotate_left
             ·simp only [Act.put, List.setIfInBounds_toArray, List.set_cons_zero, List.set_cons_succ, i64_w, i32_w]
              rfl
             refine done_ (done_of HT_.out (by kernel_rfl)) ?_
             try go_wp2
             go_ret
             exact ⟨by first | rfl | (simp [errW_none, errW_some] <;> rfl) | (simp [*, errW_none, errW_some] <;> rfl), by repeat (first | (with_reducible first | exact HB.out | apply below_alloc | apply pw_below_drewN | apply below_drew1 | refine below_set ?_ GE543.out | refine below_set ?_ GE550.out) | exact HB.out)⟩
           ·rw [if_neg c72] at H
            exact absurd H (by simp)
          ·replace c71 := Bool.eq_false_iff.mpr c71
           subst c71
           have H1 : ((numtext_ParseFloat.f kj52 t544).bind fun bt559 => (if 0 < (t545.length : Int) then (if ((rd_T30 t545 0).f0) = 5 then (if ((rd_T30 t545 0).f4) = bt559.1 then ((casketlaw11_awake.f).bind fun t563 => (some t563)) else (some false)) else (some false)) else (none))) = some r := by rw [if_neg (show ¬ (false = true) by decide)] at H; exact H
           clear H
           have H := H1
           clear H1
           replace H := Option.bind_eq_some_iff.mp H
           obtain ⟨⟨t559, t560⟩, A890, H⟩ := H
           replace H : (if 0 < (t545.length : Int) then (if ((rd_T30 t545 0).f0) = 5 then (if ((rd_T30 t545 0).f4) = t559 then ((casketlaw11_awake.f).bind fun t563 => (some t563)) else (some false)) else (some false)) else (none)) = some r := H
           have A89 := Aside0.mk A890
           clear A890
           by_cases c90 : 0 < (t545.length : Int)
           ·rw [if_pos c90] at H
            have c90b0 : decide (0 < (t545.length : Int)) = true := decide_eq_true c90
            have c90b1 : decide (0 < t545.length) = true := decide_eq_true (by omega)
            clear c90
            by_cases c91 : ((rd_T30 t545 0).f0) = 5
            ·rw [if_pos c91] at H
             have c91b0 : (((rd_T30 t545 0).f0) == 5) = true := beq_iff_eq.mpr c91
             have c91b1 : (((rd_T30 t545 0).f0) != 5) = false := bne_eq_false_iff_eq.mpr c91
             clear c91
             by_cases c92 : ((rd_T30 t545 0).f4) = t559
             ·rw [if_pos c92] at H
              have c92b0 : (((rd_T30 t545 0).f4) == t559) = true := beq_iff_eq.mpr c92
              have c92b1 : (((rd_T30 t545 0).f4) != t559) = false := bne_eq_false_iff_eq.mpr c92
              clear c92
              replace H := Option.bind_eq_some_iff.mp H
              obtain ⟨t563, A930, H⟩ := H
              replace H : (some t563) = some r := H
              have A93 := Aside0.mk A930
              clear A930
              obtain rfl := Option.some.inj H
              have hnb94 := NB543_550.out
              have hnc94 := NB550_543.out
              have hcz95_0 : wc.cell? ⟨gb543, 0, none⟩ = some (.bool false) := (blk_cell BK543.out 0).trans rfl
              have hcz95_1 : wc.cell? ⟨gb543, 1, none⟩ = some (.int .i64 a0_1) := (blk_cell BK543.out 1).trans rfl
              have hcz95_2 : wc.cell? ⟨gb543, 2, none⟩ = some (.int .u64 a0_2) := (blk_cell BK543.out 2).trans rfl
              have hfz95_0 := blk_frozen BK543.out 0
              have hfz95_1 := blk_frozen BK543.out 1
              have hfz95_2 := blk_frozen BK543.out 2
              go_wp2_with (first | ((with_reducible refine gate_callee (f := 14) rfl ?_); refine goesL_ (some 101) rfl rfl Tryd.func14 (by kernel_rfl) rfl #[.string t544] rfl (by (try simp only [List.map_toArray, List.map_cons, List.map_nil]); first | done | rfl | (simp only [List.length_drop, List.length_take]; rfl)) ?_; (with_reducible refine (numtext_ParseFloat.calls (hG := (by first | exact Glob.at_ HG0.out (by repeat (first | (with_reducible first | exact HB.out | apply below_alloc | apply pw_below_drewN | apply below_drew1 | refine below_set ?_ GE543.out | refine below_set ?_ GE550.out) | exact HB.out)) | exact Glob.at_ HG0.out (Below.refl _ _))) kj52 t544 t559 t560 _ A89.out).mono ?_); rintro e w96 ⟨rfl, hb⟩; refine ⟨_, rfl, ?_⟩; have n0_ := Aside0.mk (Kd.R_below (by (with_reducible repeat (first | apply Kd.R_alloc | apply Kd.R_drewN | apply Kd.R_drew)); exact HO_4.out) hb); have n1_ := Aside0.mk (blk_below (g := gb543) (o := .cells #[.bool false, .int .i64 a0_1, .int .u64 a0_2] 42 (0, 0)) (by (with_reducible repeat (first | refine blk_drewN ?_ _ | refine blk_drew ?_ | refine blk_alloc ?_ _)); exact BK543.out) hb); have n2_ := Aside0.mk (blk_below (g := gb550) (o := .cells #[.int .i64 t548, .int .i64 t549] 25 (0, 0)) (by (with_reducible repeat (first | refine blk_drewN ?_ _ | refine blk_drew ?_ | refine blk_alloc ?_ _)); exact BK550.out) hb); have n3_ := Aside0.mk (below_step (by repeat (first | (with_reducible first | exact HB.out | apply below_alloc | apply pw_below_drewN | apply below_drew1 | refine below_set ?_ GE543.out | refine below_set ?_ GE550.out) | exact HB.out)) hb); clear HO_4; clear BK543; clear BK550; clear HB; have HO_4 := n0_; have BK543 := n1_; have BK550 := n2_; have HB := n3_; clear n0_ n1_ n2_ n3_; (try clear hb); (try clear hb2); (try clear hk); (try clear hi); obtain ⟨Ao97, co97, eo97⟩ := Kd.R_slice HO_4.out; subst eo97; have p561 : 0 ≤ (0 : Int) := (by omega); have q561 : 0 < (t545.length : Int) := of_decide_eq_true (by first | (with_reducible assumption) | assumption); obtain ⟨ad561, e561, hx561_0, hx561_1, hx561_2, hx561_3, hx561_4⟩ := at_T30 (Kd.R_reads' HO_4.out).2.2 0 p561 q561; cases e561; have qi561 : (0 < t545.length) = True := eq_true (by omega); (try rw [show ((0 : Int)).toNat = 0 from rfl] at hx561_0); (try rw [show 0 * 5 = 0 from rfl] at hx561_0); (try rw [Addr.add_zero'] at hx561_0); (try rw [show ((0 : Int)).toNat = 0 from rfl] at hx561_1); (try rw [show 0 * 5 = 0 from rfl] at hx561_1); (try rw [Addr.add_zero'] at hx561_1); (try rw [show ((0 : Int)).toNat = 0 from rfl] at hx561_2); (try rw [show 0 * 5 = 0 from rfl] at hx561_2); (try rw [Addr.add_zero'] at hx561_2); (try rw [show ((0 : Int)).toNat = 0 from rfl] at hx561_3); (try rw [show 0 * 5 = 0 from rfl] at hx561_3); (try rw [Addr.add_zero'] at hx561_3); (try rw [show ((0 : Int)).toNat = 0 from rfl] at hx561_4); (try rw [show 0 * 5 = 0 from rfl] at hx561_4); (try rw [Addr.add_zero'] at hx561_4); replace p561 := eq_true p561; replace q561 := eq_true q561; have p562 : 0 ≤ (0 : Int) := (by omega); have q562 : 0 < (t545.length : Int) := of_decide_eq_true (by first | (with_reducible assumption) | assumption); obtain ⟨ad562, e562, hx562_0, hx562_1, hx562_2, hx562_3, hx562_4⟩ := at_T30 (Kd.R_reads' HO_4.out).2.2 0 p562 q562; obtain rfl : ad561 = ad562 := (by injection e562); have qi562 : (0 < t545.length) = True := eq_true (by omega); (try rw [show ((0 : Int)).toNat = 0 from rfl] at hx562_0); (try rw [show 0 * 5 = 0 from rfl] at hx562_0); (try rw [Addr.add_zero'] at hx562_0); (try rw [show ((0 : Int)).toNat = 0 from rfl] at hx562_1); (try rw [show 0 * 5 = 0 from rfl] at hx562_1); (try rw [Addr.add_zero'] at hx562_1); (try rw [show ((0 : Int)).toNat = 0 from rfl] at hx562_2); (try rw [show 0 * 5 = 0 from rfl] at hx562_2); (try rw [Addr.add_zero'] at hx562_2); (try rw [show ((0 : Int)).toNat = 0 from rfl] at hx562_3); (try rw [show 0 * 5 = 0 from rfl] at hx562_3); (try rw [Addr.add_zero'] at hx562_3); (try rw [show ((0 : Int)).toNat = 0 from rfl] at hx562_4); (try rw [show 0 * 5 = 0 from rfl] at hx562_4); (try rw [Addr.add_zero'] at hx562_4); replace p562 := eq_true p562; replace q562 := eq_true q562) | (go_at_call 12; (with_reducible refine (casketlaw11_awake.calls (hG := (by first | exact Glob.at_ HG0.out (by repeat (first | (with_reducible first | exact HB.out | apply below_alloc | apply pw_below_drewN | apply below_drew1 | refine below_set ?_ GE543.out | refine below_set ?_ GE550.out) | exact HB.out)) | exact Glob.at_ HG0.out (Below.refl _ _)))  t563 _ A93.out).mono ?_); rintro e w98 ⟨rfl, hb⟩; have n0_ := Aside0.mk (Kd.R_below (by (with_reducible repeat (first | apply Kd.R_alloc | apply Kd.R_drewN | apply Kd.R_drew)); exact HO_4.out) hb); have n1_ := Aside0.mk (blk_below (g := gb543) (o := .cells #[.bool false, .int .i64 a0_1, .int .u64 a0_2] 42 (0, 0)) (by (with_reducible repeat (first | refine blk_drewN ?_ _ | refine blk_drew ?_ | refine blk_alloc ?_ _)); exact BK543.out) hb); have n2_ := Aside0.mk (blk_below (g := gb550) (o := .cells #[.int .i64 t548, .int .i64 t549] 25 (0, 0)) (by (with_reducible repeat (first | refine blk_drewN ?_ _ | refine blk_drew ?_ | refine blk_alloc ?_ _)); exact BK550.out) hb); have n3_ := Aside0.mk (below_step (by repeat (first | (with_reducible first | exact HB.out | apply below_alloc | apply pw_below_drewN | apply below_drew1 | refine below_set ?_ GE543.out | refine below_set ?_ GE550.out) | exact HB.out)) hb); clear HO_4; clear BK543; clear BK550; clear HB; have HO_4 := n0_; have BK543 := n1_; have BK550 := n2_; have HB := n3_; clear n0_ n1_ n2_ n3_; (try clear hb); (try clear hb2); (try clear hk); (try clear hi)))
              go_ret
              exact ⟨by first | rfl | (simp [errW_none, errW_some] <;> rfl) | (simp [*, errW_none, errW_some] <;> rfl), by repeat (first | (with_reducible first | exact HB.out | apply below_alloc | apply pw_below_drewN | apply below_drew1 | refine below_set ?_ GE543.out | refine below_set ?_ GE550.out) | exact HB.out)⟩
             ·rw [if_neg c92] at H
              have c92b0 : (((rd_T30 t545 0).f4) == t559) = false := beq_eq_false_iff_ne.mpr c92
              have c92b1 : (((rd_T30 t545 0).f4) != t559) = true := bne_iff_ne.mpr c92
              obtain rfl := Option.some.inj H
              have hnb99 := NB543_550.out
              have hnc99 := NB550_543.out
              have hcz100_0 : wc.cell? ⟨gb543, 0, none⟩ = some (.bool false) := (blk_cell BK543.out 0).trans rfl
              have hcz100_1 : wc.cell? ⟨gb543, 1, none⟩ = some (.int .i64 a0_1) := (blk_cell BK543.out 1).trans rfl
              have hcz100_2 : wc.cell? ⟨gb543, 2, none⟩ = some (.int .u64 a0_2) := (blk_cell BK543.out 2).trans rfl
              have hfz100_0 := blk_frozen BK543.out 0
              have hfz100_1 := blk_frozen BK543.out 1
              have hfz100_2 := blk_frozen BK543.out 2
              go_wp2_with (first | ((with_reducible refine gate_callee (f := 14) rfl ?_); refine goesL_ (some 101) rfl rfl Tryd.func14 (by kernel_rfl) rfl #[.string t544] rfl (by (try simp only [List.map_toArray, List.map_cons, List.map_nil]); first | done | rfl | (simp only [List.length_drop, List.length_take]; rfl)) ?_; (with_reducible refine (numtext_ParseFloat.calls (hG := (by first | exact Glob.at_ HG0.out (by repeat (first | (with_reducible first | exact HB.out | apply below_alloc | apply pw_below_drewN | apply below_drew1 | refine below_set ?_ GE543.out | refine below_set ?_ GE550.out) | exact HB.out)) | exact Glob.at_ HG0.out (Below.refl _ _))) kj52 t544 t559 t560 _ A89.out).mono ?_); rintro e w101 ⟨rfl, hb⟩; refine ⟨_, rfl, ?_⟩; have n0_ := Aside0.mk (Kd.R_below (by (with_reducible repeat (first | apply Kd.R_alloc | apply Kd.R_drewN | apply Kd.R_drew)); exact HO_4.out) hb); have n1_ := Aside0.mk (blk_below (g := gb543) (o := .cells #[.bool false, .int .i64 a0_1, .int .u64 a0_2] 42 (0, 0)) (by (with_reducible repeat (first | refine blk_drewN ?_ _ | refine blk_drew ?_ | refine blk_alloc ?_ _)); exact BK543.out) hb); have n2_ := Aside0.mk (blk_below (g := gb550) (o := .cells #[.int .i64 t548, .int .i64 t549] 25 (0, 0)) (by (with_reducible repeat (first | refine blk_drewN ?_ _ | refine blk_drew ?_ | refine blk_alloc ?_ _)); exact BK550.out) hb); have n3_ := Aside0.mk (below_step (by repeat (first | (with_reducible first | exact HB.out | apply below_alloc | apply pw_below_drewN | apply below_drew1 | refine below_set ?_ GE543.out | refine below_set ?_ GE550.out) | exact HB.out)) hb); clear HO_4; clear BK543; clear BK550; clear HB; have HO_4 := n0_; have BK543 := n1_; have BK550 := n2_; have HB := n3_; clear n0_ n1_ n2_ n3_; (try clear hb); (try clear hb2); (try clear hk); (try clear hi); obtain ⟨Ao102, co102, eo102⟩ := Kd.R_slice HO_4.out; subst eo102; have p561 : 0 ≤ (0 : Int) := (by omega); have q561 : 0 < (t545.length : Int) := of_decide_eq_true (by first | (with_reducible assumption) | assumption); obtain ⟨ad561, e561, hx561_0, hx561_1, hx561_2, hx561_3, hx561_4⟩ := at_T30 (Kd.R_reads' HO_4.out).2.2 0 p561 q561; cases e561; have qi561 : (0 < t545.length) = True := eq_true (by omega); (try rw [show ((0 : Int)).toNat = 0 from rfl] at hx561_0); (try rw [show 0 * 5 = 0 from rfl] at hx561_0); (try rw [Addr.add_zero'] at hx561_0); (try rw [show ((0 : Int)).toNat = 0 from rfl] at hx561_1); (try rw [show 0 * 5 = 0 from rfl] at hx561_1); (try rw [Addr.add_zero'] at hx561_1); (try rw [show ((0 : Int)).toNat = 0 from rfl] at hx561_2); (try rw [show 0 * 5 = 0 from rfl] at hx561_2); (try rw [Addr.add_zero'] at hx561_2); (try rw [show ((0 : Int)).toNat = 0 from rfl] at hx561_3); (try rw [show 0 * 5 = 0 from rfl] at hx561_3); (try rw [Addr.add_zero'] at hx561_3); (try rw [show ((0 : Int)).toNat = 0 from rfl] at hx561_4); (try rw [show 0 * 5 = 0 from rfl] at hx561_4); (try rw [Addr.add_zero'] at hx561_4); replace p561 := eq_true p561; replace q561 := eq_true q561; have p562 : 0 ≤ (0 : Int) := (by omega); have q562 : 0 < (t545.length : Int) := of_decide_eq_true (by first | (with_reducible assumption) | assumption); obtain ⟨ad562, e562, hx562_0, hx562_1, hx562_2, hx562_3, hx562_4⟩ := at_T30 (Kd.R_reads' HO_4.out).2.2 0 p562 q562; obtain rfl : ad561 = ad562 := (by injection e562); have qi562 : (0 < t545.length) = True := eq_true (by omega); (try rw [show ((0 : Int)).toNat = 0 from rfl] at hx562_0); (try rw [show 0 * 5 = 0 from rfl] at hx562_0); (try rw [Addr.add_zero'] at hx562_0); (try rw [show ((0 : Int)).toNat = 0 from rfl] at hx562_1); (try rw [show 0 * 5 = 0 from rfl] at hx562_1); (try rw [Addr.add_zero'] at hx562_1); (try rw [show ((0 : Int)).toNat = 0 from rfl] at hx562_2); (try rw [show 0 * 5 = 0 from rfl] at hx562_2); (try rw [Addr.add_zero'] at hx562_2); (try rw [show ((0 : Int)).toNat = 0 from rfl] at hx562_3); (try rw [show 0 * 5 = 0 from rfl] at hx562_3); (try rw [Addr.add_zero'] at hx562_3); (try rw [show ((0 : Int)).toNat = 0 from rfl] at hx562_4); (try rw [show 0 * 5 = 0 from rfl] at hx562_4); (try rw [Addr.add_zero'] at hx562_4); replace p562 := eq_true p562; replace q562 := eq_true q562))
              go_ret
              exact ⟨by first | rfl | (simp [errW_none, errW_some] <;> rfl) | (simp [*, errW_none, errW_some] <;> rfl), by repeat (first | (with_reducible first | exact HB.out | apply below_alloc | apply pw_below_drewN | apply below_drew1 | refine below_set ?_ GE543.out | refine below_set ?_ GE550.out) | exact HB.out)⟩
            ·rw [if_neg c91] at H
             have c91b0 : (((rd_T30 t545 0).f0) == 5) = false := beq_eq_false_iff_ne.mpr c91
             have c91b1 : (((rd_T30 t545 0).f0) != 5) = true := bne_iff_ne.mpr c91
             obtain rfl := Option.some.inj H
             have hnb103 := NB543_550.out
             have hnc103 := NB550_543.out
             have hcz104_0 : wc.cell? ⟨gb543, 0, none⟩ = some (.bool false) := (blk_cell BK543.out 0).trans rfl
             have hcz104_1 : wc.cell? ⟨gb543, 1, none⟩ = some (.int .i64 a0_1) := (blk_cell BK543.out 1).trans rfl
             have hcz104_2 : wc.cell? ⟨gb543, 2, none⟩ = some (.int .u64 a0_2) := (blk_cell BK543.out 2).trans rfl
             have hfz104_0 := blk_frozen BK543.out 0
             have hfz104_1 := blk_frozen BK543.out 1
             have hfz104_2 := blk_frozen BK543.out 2
             go_wp2_with (first | ((with_reducible refine gate_callee (f := 14) rfl ?_); refine goesL_ (some 101) rfl rfl Tryd.func14 (by kernel_rfl) rfl #[.string t544] rfl (by (try simp only [List.map_toArray, List.map_cons, List.map_nil]); first | done | rfl | (simp only [List.length_drop, List.length_take]; rfl)) ?_; (with_reducible refine (numtext_ParseFloat.calls (hG := (by first | exact Glob.at_ HG0.out (by repeat (first | (with_reducible first | exact HB.out | apply below_alloc | apply pw_below_drewN | apply below_drew1 | refine below_set ?_ GE543.out | refine below_set ?_ GE550.out) | exact HB.out)) | exact Glob.at_ HG0.out (Below.refl _ _))) kj52 t544 t559 t560 _ A89.out).mono ?_); rintro e w105 ⟨rfl, hb⟩; refine ⟨_, rfl, ?_⟩; have n0_ := Aside0.mk (Kd.R_below (by (with_reducible repeat (first | apply Kd.R_alloc | apply Kd.R_drewN | apply Kd.R_drew)); exact HO_4.out) hb); have n1_ := Aside0.mk (blk_below (g := gb543) (o := .cells #[.bool false, .int .i64 a0_1, .int .u64 a0_2] 42 (0, 0)) (by (with_reducible repeat (first | refine blk_drewN ?_ _ | refine blk_drew ?_ | refine blk_alloc ?_ _)); exact BK543.out) hb); have n2_ := Aside0.mk (blk_below (g := gb550) (o := .cells #[.int .i64 t548, .int .i64 t549] 25 (0, 0)) (by (with_reducible repeat (first | refine blk_drewN ?_ _ | refine blk_drew ?_ | refine blk_alloc ?_ _)); exact BK550.out) hb); have n3_ := Aside0.mk (below_step (by repeat (first | (with_reducible first | exact HB.out | apply below_alloc | apply pw_below_drewN | apply below_drew1 | refine below_set ?_ GE543.out | refine below_set ?_ GE550.out) | exact HB.out)) hb); clear HO_4; clear BK543; clear BK550; clear HB; have HO_4 := n0_; have BK543 := n1_; have BK550 := n2_; have HB := n3_; clear n0_ n1_ n2_ n3_; (try clear hb); (try clear hb2); (try clear hk); (try clear hi); obtain ⟨Ao106, co106, eo106⟩ := Kd.R_slice HO_4.out; subst eo106; have p561 : 0 ≤ (0 : Int) := (by omega); have q561 : 0 < (t545.length : Int) := of_decide_eq_true (by first | (with_reducible assumption) | assumption); obtain ⟨ad561, e561, hx561_0, hx561_1, hx561_2, hx561_3, hx561_4⟩ := at_T30 (Kd.R_reads' HO_4.out).2.2 0 p561 q561; cases e561; have qi561 : (0 < t545.length) = True := eq_true (by omega); (try rw [show ((0 : Int)).toNat = 0 from rfl] at hx561_0); (try rw [show 0 * 5 = 0 from rfl] at hx561_0); (try rw [Addr.add_zero'] at hx561_0); (try rw [show ((0 : Int)).toNat = 0 from rfl] at hx561_1); (try rw [show 0 * 5 = 0 from rfl] at hx561_1); (try rw [Addr.add_zero'] at hx561_1); (try rw [show ((0 : Int)).toNat = 0 from rfl] at hx561_2); (try rw [show 0 * 5 = 0 from rfl] at hx561_2); (try rw [Addr.add_zero'] at hx561_2); (try rw [show ((0 : Int)).toNat = 0 from rfl] at hx561_3); (try rw [show 0 * 5 = 0 from rfl] at hx561_3); (try rw [Addr.add_zero'] at hx561_3); (try rw [show ((0 : Int)).toNat = 0 from rfl] at hx561_4); (try rw [show 0 * 5 = 0 from rfl] at hx561_4); (try rw [Addr.add_zero'] at hx561_4); replace p561 := eq_true p561; replace q561 := eq_true q561))
             go_ret
             exact ⟨by first | rfl | (simp [errW_none, errW_some] <;> rfl) | (simp [*, errW_none, errW_some] <;> rfl), by repeat (first | (with_reducible first | exact HB.out | apply below_alloc | apply pw_below_drewN | apply below_drew1 | refine below_set ?_ GE543.out | refine below_set ?_ GE550.out) | exact HB.out)⟩
           ·rw [if_neg c90] at H
            exact absurd H (by simp)
     ·rw [if_neg c33] at H
      exact absurd H (by simp)
end Go.Proofs.YtjolkombhdibcaaDoor.Print
end
section
namespace Go.Proofs.YtjolkombhdibcaaDoor.Sp
end Go.Proofs.YtjolkombhdibcaaDoor.Sp
end
section
namespace Go.Proofs.YtjolkombhdibcaaDoor.Sp
open Go.RowKit Go.Proofs.YtjolkombhdibcaaDoorW.PrintWords Go.Proofs.YtjolkombhdibcaaDoorW.PrintMore Go.Proofs.YtjolkombhdibcaaDoor.Given Go.Proofs.YtjolkombhdibcaaDoor.Print
set_option linter.unusedVariables false
set_option linter.unusedSimpArgs false
theorem run_stop {p : UInt8 → Bool} {c : UInt8} (h : p c = false) (r : List UInt8) : Given.runN p (c :: r) = 0 := by
  unfold Given.runN
  rw [List.takeWhile_cons, h]; rfl
end Go.Proofs.YtjolkombhdibcaaDoor.Sp
end
section
namespace Go.Proofs.YtjolkombhdibcaaDoor.Sp
open Go.RowKit Go.Proofs.YtjolkombhdibcaaDoorW.PrintWords Go.Proofs.YtjolkombhdibcaaDoorW.PrintMore Go.Proofs.YtjolkombhdibcaaDoor.Given Go.Proofs.YtjolkombhdibcaaDoor.Print
set_option linter.unusedVariables false
set_option linter.unusedSimpArgs false
def marks2 : List (List UInt8) := [[61, 61], [33, 61], [60, 61], [62, 61], [60, 60], [62, 62], [47, 47], [46, 46]]
def marks1 : List (List UInt8) := [[43], [45], [42], [47], [37], [38], [124], [94], [126], [60], [62], [61], [40], [41], [123], [125], [91], [93], [44], [59], [58]]
theorem marks_split : marksL = marks2 ++ marks1 := rfl
theorem find_len (n : Nat) (l : List UInt8) : ∀ (ms : List (List UInt8)), (∀ m ∈ ms, m.length = n) → ms.find? (fun m => Lib.hasPrefix l m) = if n ≤ l.length ∧ l.take n ∈ ms then some (l.take n) else none
  | [], _ => by simp
  | m :: ms, h => by
    have hm := h m (by simp)
    have hp : Lib.hasPrefix l m = true ↔ (n ≤ l.length ∧ l.take n = m) := by
      unfold Lib.hasPrefix
      rw [List.isPrefixOf_iff_prefix, List.prefix_iff_eq_take, hm]
      constructor
      · intro e
        refine ⟨?_, e.symm⟩
        have := congrArg List.length e
        rw [hm, List.length_take] at this
        omega
      · rintro ⟨_, e⟩; exact e.symm
    rw [List.find?_cons]
    by_cases hc : Lib.hasPrefix l m = true
    · rw [hc]
      obtain ⟨h1, h2⟩ := hp.1 hc
      rw [if_pos ⟨h1, by rw [h2]; simp⟩, h2]
    · rw [Bool.eq_false_iff.2 hc]
      dsimp only
      rw [find_len n l ms (fun m hm => h m (by simp [hm]))]
      by_cases h1 : n ≤ l.length
      · have : l.take n ≠ m := fun e => hc (hp.2 ⟨h1, e⟩)
        simp [h1, this]
      · simp [h1]
theorem markT_eq (c : UInt8) (r : List UInt8) : markT (c :: r) =
    if 2 ≤ (c :: r).length ∧ (c :: r).take 2 ∈ marks2 then tok 3 ((c :: r).take 2) 0 0 2 else if [c] ∈ marks1 then tok 3 [c] 0 0 1 else bad 60 := by
  unfold markT markOf
  rw [marks_split, List.find?_append, find_len 2 _ marks2 (by decide), find_len 1 _ marks1 (by decide)]
  by_cases h2 : 2 ≤ (c :: r).length ∧ (c :: r).take 2 ∈ marks2
  · rw [if_pos h2, if_pos h2]
    dsimp only [Option.some_or]
    have : ((c :: r).take 2).length = 2 := by rw [List.length_take]; omega
    rw [this]; rfl
  · rw [if_neg h2, if_neg h2]
    have h1 : (c :: r).take 1 = [c] := rfl
    rw [h1]
    by_cases h3 : [c] ∈ marks1
    · rw [if_pos ⟨by simp, h3⟩, if_pos h3]; rfl
    · rw [if_neg (fun e => h3 e.2), if_neg h3]; rfl
end Go.Proofs.YtjolkombhdibcaaDoor.Sp
end
section
namespace Go.Proofs.YtjolkombhdibcaaDoor.Sp
end Go.Proofs.YtjolkombhdibcaaDoor.Sp
end
section
namespace Go.Proofs.YtjolkombhdibcaaDoor.Sp
open Go.RowKit Go.Proofs.YtjolkombhdibcaaDoorW.PrintWords Go.Proofs.YtjolkombhdibcaaDoorW.PrintMore Go.Proofs.YtjolkombhdibcaaDoor.Given Go.Proofs.YtjolkombhdibcaaDoor.Print
set_option linter.unusedVariables false
set_option linter.unusedSimpArgs false
def awL : List UInt8 := [108, 101, 116, 32, 120, 61, 49, 46, 46, 50, 32, 35, 32, 121]
theorem toks_step {l : List UInt8} {p : Nat} (c : UInt8) (r m : List UInt8) (q : Nat) (hl : l = c :: r) (hb : ¬ blank c) (hc : c ≠ 35) (t : T7) (ht : nextT (c :: r) = t) (he : te t = 0) (hq : tn t = q) (hm : (c :: r).drop q = m) :
    toks l p = (tk t p, 0, 0) :: toks m (p + q) := by
  subst hl ht hm
  exact toks_tok hb hc r p q he hq
theorem aw1 : nextT awL = tok 2 [108, 101, 116] 0 0 3 := by decide +kernel
theorem aw2 : nextT [120, 61, 49, 46, 46, 50, 32, 35, 32, 121] = tok 1 [120] 0 0 1 := by decide +kernel
theorem aw3 : nextT [61, 49, 46, 46, 50, 32, 35, 32, 121] = tok 3 [61] 0 0 1 := by decide +kernel
theorem aw4 : nextT [49, 46, 46, 50, 32, 35, 32, 121] = tok 4 [] 1 0 1 := by decide +kernel
theorem aw5 : nextT [46, 46, 50, 32, 35, 32, 121] = tok 3 [46, 46] 0 0 2 := by decide +kernel
theorem aw6 : nextT [50, 32, 35, 32, 121] = tok 4 [] 2 0 1 := by decide +kernel
theorem aw_toks : toks awL 0 = [(tk (tok 2 [108, 101, 116] 0 0 3) 0, 0, 0), (tk (tok 1 [120] 0 0 1) 4, 0, 0), (tk (tok 3 [61] 0 0 1) 5, 0, 0), (tk (tok 4 [] 1 0 1) 6, 0, 0), (tk (tok 3 [46, 46] 0 0 2) 7, 0, 0), (tk (tok 4 [] 2 0 1) 9, 0, 0), endE 14] := by
  rw [toks_step (l := awL) 108 [101, 116, 32, 120, 61, 49, 46, 46, 50, 32, 35, 32, 121] [32, 120, 61, 49, 46, 46, 50, 32, 35, 32, 121] 3 rfl (by decide) (by decide) _ aw1 rfl rfl rfl]
  rw [toks_blank (c := 32) (.inl rfl)]
  rw [toks_step (l := [120, 61, 49, 46, 46, 50, 32, 35, 32, 121]) 120 [61, 49, 46, 46, 50, 32, 35, 32, 121] [61, 49, 46, 46, 50, 32, 35, 32, 121] 1 rfl (by decide) (by decide) _ aw2 rfl rfl rfl]
  rw [toks_step (l := [61, 49, 46, 46, 50, 32, 35, 32, 121]) 61 [49, 46, 46, 50, 32, 35, 32, 121] [49, 46, 46, 50, 32, 35, 32, 121] 1 rfl (by decide) (by decide) _ aw3 rfl rfl rfl]
  rw [toks_step (l := [49, 46, 46, 50, 32, 35, 32, 121]) 49 [46, 46, 50, 32, 35, 32, 121] [46, 46, 50, 32, 35, 32, 121] 1 rfl (by decide) (by decide) _ aw4 rfl rfl rfl]
  rw [toks_step (l := [46, 46, 50, 32, 35, 32, 121]) 46 [46, 50, 32, 35, 32, 121] [50, 32, 35, 32, 121] 2 rfl (by decide) (by decide) _ aw5 rfl rfl rfl]
  rw [toks_step (l := [50, 32, 35, 32, 121]) 50 [32, 35, 32, 121] [32, 35, 32, 121] 1 rfl (by decide) (by decide) _ aw6 rfl rfl rfl]
  rw [toks_blank (c := 32) (.inl rfl), toks_hash]
  have : Given.runN lineB [32, 121] = 2 := by decide
  rw [this, show ([32, 121] : List UInt8).drop 2 = [] from rfl, toks_nil]
theorem aw_all : allT awL = ([tk (tok 2 [108, 101, 116] 0 0 3) 0, tk (tok 1 [120] 0 0 1) 4, tk (tok 3 [61] 0 0 1) 5, tk (tok 4 [] 1 0 1) 6, tk (tok 3 [46, 46] 0 0 2) 7, tk (tok 4 [] 2 0 1) 9, (endE 14).1], 0, 0) := by
  unfold allT seqT
  rw [if_neg (by decide), aw_toks]
  rfl
theorem awake_f : casketlaw11_awake.f = some true := by
  unfold casketlaw11_awake.f
  have h : lex_All.f (⟨#[108, 101, 116, 32, 120, 61, 49, 46, 46, 50, 32, 35, 32, 121]⟩ : ByteArray) = some (allT awL) := all_f awL (by decide)
  rw [h, aw_all]
  decide +kernel
end Go.Proofs.YtjolkombhdibcaaDoor.Sp
end
section
namespace Go.Proofs.YtjolkombhdibcaaDoor.Sp
open Go.RowKit Go.Proofs.YtjolkombhdibcaaDoorW.PrintWords Go.Proofs.YtjolkombhdibcaaDoorW.PrintMore Go.Proofs.YtjolkombhdibcaaDoor.Given Go.Proofs.YtjolkombhdibcaaDoor.Print
open Go.Lib (decDigits itoa nDigits)
set_option linter.unusedVariables false
set_option linter.unusedSimpArgs false
def textS (whole : Bool) (i b : Int) : List UInt8 := if whole = true then itoa i else floatT b.toNat
theorem text_ev (whole : Bool) (i : Int) (b : Nat) (hi : -9223372036854775808 ≤ i ∧ i ≤ 9223372036854775807) (hb : b < 18446744073709551616) :
    Ev (fun k => numtext_Text.f k whole i (b : Int)) (bs (textS whole i b)) := by
  unfold numtext_Text.f textS
  cases whole with
  | true => exact Ev.yes rfl (Ev.bind0 (int_f' hi) (Ev.ret (by simp)))
  | false => exact Ev.no (by simp) (Ev.bind (float_ev b hb) (Ev.ret (by simp)))
end Go.Proofs.YtjolkombhdibcaaDoor.Sp
end
section
namespace Go.Proofs.YtjolkombhdibcaaDoor.Sp
open Go.RowKit Go.Proofs.YtjolkombhdibcaaDoorW.PrintWords Go.Proofs.YtjolkombhdibcaaDoorW.PrintMore Go.Proofs.YtjolkombhdibcaaDoor.Given Go.Proofs.YtjolkombhdibcaaDoor.Print
open Go.Lib (decDigits itoa nDigits)
set_option linter.unusedVariables false
set_option linter.unusedSimpArgs false
theorem dec_dig : ∀ n : Nat, (decDigits n).all isDig = true := by
  intro n
  induction n using Nat.strongRecOn with
  | _ n ih =>
    have hd : ∀ i : Fin 10, isDig (UInt8.ofNat (48 + i.val)) = true := by decide
    rw [decDigits]
    by_cases h : n < 10
    · rw [dif_pos h]; simp only [List.all_cons, List.all_nil, Bool.and_true]; exact hd ⟨n, h⟩
    · rw [dif_neg h, List.all_append, ih (n / 10) (by omega)]
      simp only [List.all_cons, List.all_nil, Bool.and_true, Bool.true_and]
      exact hd ⟨n % 10, Nat.mod_lt _ (by decide)⟩
theorem dec_val : ∀ n : Nat, decVal 0 (decDigits n) = n := by
  intro n
  induction n using Nat.strongRecOn with
  | _ n ih =>
    have hd : ∀ i : Fin 10, (UInt8.ofNat (48 + i.val)).toNat - 48 = i.val := by decide
    rw [decDigits]
    by_cases h : n < 10
    · rw [dif_pos h]
      show 0 * 10 + ((UInt8.ofNat (48 + n)).toNat - 48) = n
      rw [hd ⟨n, h⟩]; simp
    · rw [dif_neg h, decVal_append, ih (n / 10) (by omega)]
      show n / 10 * 10 + ((UInt8.ofNat (48 + n % 10)).toNat - 48) = n
      rw [hd ⟨n % 10, Nat.mod_lt _ (by decide)⟩]
      show n / 10 * 10 + n % 10 = n
      omega
theorem dec_ne (n : Nat) : decDigits n ≠ [] := by
  intro h
  have := Lib.nDigits_pos n
  rw [← Lib.decDigits_length, h] at this
  simp at this
theorem dec_len5 {n : Nat} (h : n < 100000) : (decDigits n).length ≤ 5 := by
  rw [Lib.decDigits_length]; exact nDigits_le 5 n h (by omega)
def hexN : Nat → Nat → List Nat
  | 0, _ => []
  | n + 1, f => if f = 0 then [] else f / 281474976710656 :: hexN n (f * 16 % 4503599627370496)
theorem hexV_hex {q : Nat} (h : q < 16) : hexV (hexL.getD q 0) = some q := hex_all q h
theorem cut_hexs : ∀ (n f : Nat) (c : UInt8) (r : List UInt8), f < 4503599627370496 → hexV c = none → cutN (hexs n f ++ c :: r) = (hexN n f, c :: r)
  | 0, f, c, r, hf, hc => by simp only [hexs, hexN, List.nil_append]; rw [cutN, hc]
  | n + 1, f, c, r, hf, hc => by
    unfold hexs hexN
    by_cases h : f = 0
    · rw [if_pos h, if_pos h, List.nil_append, cutN, hc]
    · rw [if_neg h, if_neg h, List.cons_append, cutN, hexV_hex (by omega), cut_hexs n _ c r (Nat.mod_lt _ (by decide)) hc]
theorem hexN_ne {n f : Nat} (h : f ≠ 0) : hexN (n + 1) f ≠ [] := by unfold hexN; rw [if_neg h]; simp
theorem hexN_val : ∀ (n f a : Nat), n ≤ 13 → f < 4503599627370496 → f * 16 ^ n % 4503599627370496 = 0 → val 16 a (hexN n f) * 2 ^ (52 - 4 * (hexN n f).length) = a * 4503599627370496 + f ∧ (hexN n f).length ≤ n
  | 0, f, a, hn, hf, h0 => by
    have : f = 0 := by simp at h0; omega
    subst this
    simp [hexN, val]
  | n + 1, f, a, hn, hf, h0 => by
    unfold hexN
    by_cases h : f = 0
    · subst h; simp [val]
    · rw [if_neg h]
      obtain ⟨h1, h2⟩ := hexN_val n (f * 16 % 4503599627370496) (a * 16 + f / 281474976710656) (by omega) (Nat.mod_lt _ (by decide)) (by rw [pow16]; exact h0)
      rw [List.length_cons, show val 16 a (f / 281474976710656 :: hexN n (f * 16 % 4503599627370496)) = val 16 (a * 16 + f / 281474976710656) (hexN n (f * 16 % 4503599627370496)) from rfl]
      generalize val 16 (a * 16 + f / 281474976710656) (hexN n (f * 16 % 4503599627370496)) = X at h1
      generalize (hexN n (f * 16 % 4503599627370496)).length = L at h1 h2
      refine ⟨?_, by omega⟩
      obtain ⟨z, hz⟩ : ∃ z, 52 - 4 * L = z + 4 := ⟨52 - 4 * (L + 1), by omega⟩
      have hz' : 52 - 4 * (L + 1) = z := by omega
      rw [hz, Nat.pow_add, ← Nat.mul_assoc] at h1
      rw [hz']
      generalize X * 2 ^ z = Y at h1
      omega
theorem bl_odd {n : Nat} (h : 0 < n) : bl (odd n) + twos n = bl n := by
  obtain ⟨h1, _⟩ := split n h
  obtain ⟨a, b, c⟩ := bl_bounds (odd n) (odd_pos h)
  obtain ⟨k, hk⟩ : ∃ k, bl (odd n) = k + 1 := ⟨bl (odd n) - 1, by omega⟩
  rw [hk] at b c ⊢
  rw [Nat.add_sub_cancel] at b
  have : bl n = (k + twos n) + 1 := by
    refine bl_unique ?_ ?_
    · have := Nat.mul_le_mul_right (2 ^ twos n) b
      rw [← Nat.pow_add, ← h1] at this; exact this
    · have := Nat.mul_lt_mul_of_pos_right c (Nat.two_pow_pos (twos n))
      rw [← Nat.pow_add, ← h1] at this
      rw [show k + twos n + 1 = k + 1 + twos n by omega]; exact this
  omega
theorem exactS_norm {M : Nat} {e : Int} (h1 : 4503599627370496 ≤ M) (h2 : M < 9007199254740992) (he : -1074 ≤ e ∧ e ≤ 971) : exactS M e = some ((e + 1075).toNat * 4503599627370496 + M % 4503599627370496) := by
  have hb : bl M = 53 := bl_unique (k := 52) (by omega) (by omega)
  have ho := bl_odd (n := M) (by omega)
  obtain ⟨s1, _⟩ := split M (by omega)
  have hp := bl_bounds (odd M) (odd_pos (by omega))
  unfold exactS
  rw [if_neg (by omega), if_neg (by omega), if_neg (by omega), show 53 - bl (odd M) = twos M by omega, ← s1]
  congr 3
  omega
theorem exactS_sub {m : Nat} (h0 : 0 < m) (h : m < 4503599627370496) : exactS m (-1074) = some m := by
  have hb := bl_le (n := m) (k := 52) (by omega)
  have ho := bl_odd h0
  obtain ⟨s1, _⟩ := split m h0
  have hp := bl_bounds (odd m) (odd_pos h0)
  unfold exactS
  rw [if_neg (by omega), if_neg (by omega), if_pos (by omega), show (-1074 + (twos m : Int) + 1074).toNat = twos m by omega, ← s1]
theorem tail_expT (neg : Bool) (ds : List Nat) (p : Nat) (e : Int) (he : -99999 ≤ e ∧ e ≤ 99999) : tailS neg ds p (expT e) = resR (signN neg) (exactS (val 16 0 ds) (e - 4 * p)) := by
  unfold expT Lib.itoa
  by_cases h : e < 0
  · rw [if_pos h, if_pos h, tailS_p, if_pos ⟨.inr rfl, dec_ne _, dec_len5 (by omega), dec_dig _⟩]
    congr 2
    show (if (45 : UInt8) = 45 then -(decVal 0 (decDigits e.natAbs) : Int) else _) - _ = _
    rw [if_pos rfl, dec_val]; omega
  · rw [if_neg h, if_neg h, tailS_p, if_pos ⟨.inl rfl, dec_ne _, dec_len5 (by omega), dec_dig _⟩]
    congr 2
    show (if (43 : UInt8) = 45 then _ else (decVal 0 (decDigits e.toNat) : Int)) - _ = _
    rw [if_neg (by decide), dec_val]; omega
theorem body_back (neg : Bool) (e : Int) (f : Nat) (hf : f < 4503599627370496) (he : -99999 ≤ e ∧ e ≤ 99999) :
    bodyS neg (49 :: ((if f = 0 then [] else [46]) ++ hexs 13 f ++ expT e)) = resR (signN neg) (exactS (4503599627370496 + f) (e - 52)) := by
  have h49 : hexV 49 = some 1 := rfl
  have h46 : hexV 46 = none := rfl
  have h112 : hexV 112 = none := rfl
  obtain ⟨v1, v2⟩ := hexN_val 13 f 1 (by omega) hf (p16 f)
  have hcut : cutN (hexs 13 f ++ expT e) = (hexN 13 f, expT e) := cut_hexs 13 f 112 _ hf h112
  have fin : resR (signN neg) (exactS (val 16 0 (1 :: hexN 13 f)) (e - 4 * ((hexN 13 f).length : Nat))) = resR (signN neg) (exactS (4503599627370496 + f) (e - 52)) := by
    congr 1
    rw [show val 16 0 (1 :: hexN 13 f) = val 16 1 (hexN 13 f) from rfl, show e - 4 * ((hexN 13 f).length : Int) = (e - 52) + ((52 - 4 * (hexN 13 f).length : Nat) : Int) by omega, ← exactS_shift, v1, Nat.one_mul]
  rw [← fin, ← tail_expT neg _ _ e he]
  unfold bodyS
  by_cases h : f = 0
  · subst h
    rw [if_pos rfl, List.nil_append]
    have hc : cutN (49 :: (hexs 13 0 ++ expT e)) = (1 :: hexN 13 0, expT e) := by rw [cutN, h49, hcut]
    rw [hc, if_neg (by simp)]
    rfl
  · rw [if_neg h]
    have hc : cutN (49 :: ([46] ++ hexs 13 f ++ expT e)) = ([1], 46 :: (hexs 13 f ++ expT e)) := by
      rw [List.append_assoc, List.singleton_append, cutN, h49]
      show (1 :: (cutN (46 :: (hexs 13 f ++ expT e))).1, (cutN (46 :: (hexs 13 f ++ expT e))).2) = _
      rw [cutN, h46]
    rw [hc, if_neg (by simp)]
    show (if (cutN (hexs 13 f ++ expT e)).1 = [] then ((0, 20) : Int × Int) else tailS neg ([1] ++ (cutN (hexs 13 f ++ expT e)).1) (cutN (hexs 13 f ++ expT e)).1.length (cutN (hexs 13 f ++ expT e)).2) = _
    rw [hcut, if_neg (hexN_ne h)]
    rfl
theorem expT_len {e : Int} (he : -99999 ≤ e ∧ e ≤ 99999) : (expT e).length ≤ 7 := by
  unfold expT Lib.itoa
  split
  · have := dec_len5 (n := e.natAbs) (by omega); simp; omega
  · have := dec_len5 (n := e.toNat) (by omega); simp; omega
theorem fin_back (neg : Bool) (e : Int) (f : Nat) (hf : f < 4503599627370496) (he : -99999 ≤ e ∧ e ≤ 99999) :
    pfS (finT (if neg = true then [45] else []) e f) = resR (signN neg) (exactS (4503599627370496 + f) (e - 52)) := by
  have hx := hexs_len 13 f
  have hy := expT_len he
  rw [← body_back neg e f hf he]
  have h0 : finT (if neg = true then [45] else []) e f = (if neg = true then [45] else []) ++ (48 :: 120 :: 49 :: ((if f = 0 then [] else [46]) ++ hexs 13 f ++ expT e)) := by
    unfold finT; simp
  have hl : ((if f = 0 then ([] : List UInt8) else [46]) ++ hexs 13 f ++ expT e).length ≤ 30 := by
    have : (if f = 0 then ([] : List UInt8) else [46]).length ≤ 1 := by split <;> simp
    simp only [List.length_append]; omega
  rw [h0]
  generalize (if f = 0 then ([] : List UInt8) else [46]) ++ hexs 13 f ++ expT e = t at hl
  unfold pfS
  cases neg with
  | true =>
    rw [if_pos rfl, if_neg (by simp; omega), if_neg (by simp), if_neg (by simp), if_neg (by simp)]
    rfl
  | false =>
    have e0 : (if false = true then [45] else ([] : List UInt8)) = [] := rfl
    rw [e0, if_neg (by simp only [List.nil_append, List.length_cons]; omega), if_neg (by simp), if_neg (by simp), if_neg (by simp)]
    rfl
def canonN (b : Nat) : Nat := if 9218868437227405312 < b % 9223372036854775808 then 9221120237041090560 else b
theorem signN_val {b : Nat} (h : b < 18446744073709551616) : signN (decide (9223372036854775808 ≤ b)) + b % 9223372036854775808 = b := by
  unfold signN
  by_cases hs : 9223372036854775808 ≤ b
  · rw [decide_eq_true hs, if_pos rfl]; omega
  · rw [decide_eq_false hs, if_neg (by simp)]; omega
theorem signT_eq (b : Nat) : signT b = if decide (9223372036854775808 ≤ b) = true then [45] else [] := by
  unfold signT; simp
theorem float_back (b : Nat) (h : b < 18446744073709551616) : pfS (floatT b) = ((canonN b : Int), 0) := by
  have hs := signN_val h
  unfold floatT floatM canonN
  rw [signT_eq]
  generalize decide (9223372036854775808 ≤ b) = neg at hs
  have hm : b % 9223372036854775808 < 9223372036854775808 := Nat.mod_lt _ (by decide)
  by_cases h1 : 9218868437227405312 < b % 9223372036854775808
  · rw [if_pos h1, if_pos h1]; decide
  · rw [if_neg h1, if_neg h1]
    generalize b % 9223372036854775808 = m at *
    clear h
    subst hs
    by_cases h2 : m = 9218868437227405312
    · rw [if_pos h2]; subst h2; cases neg <;> decide
    · rw [if_neg h2]
      by_cases h3 : m = 0
      · rw [if_pos h3]; subst h3; cases neg <;> rfl
      · rw [if_neg h3]
        by_cases h4 : m < 4503599627370496
        · rw [if_pos h4]
          obtain ⟨p1, p2, p3⟩ := bl_bounds m (by omega)
          have hb := bl_le (n := m) (k := 52) (by omega)
          have hM1 : 4503599627370496 ≤ m * 2 ^ (53 - bl m) := by
            have := Nat.mul_le_mul_right (2 ^ (53 - bl m)) p2
            rw [← Nat.pow_add, show bl m - 1 + (53 - bl m) = 52 by omega] at this; omega
          have hM2 : m * 2 ^ (53 - bl m) < 9007199254740992 := by
            have := Nat.mul_lt_mul_of_pos_right p3 (Nat.two_pow_pos (53 - bl m))
            rw [← Nat.pow_add, show bl m + (53 - bl m) = 53 by omega] at this; omega
          rw [fin_back neg _ _ (Nat.mod_lt _ (by decide)) (by omega), show 4503599627370496 + m * 2 ^ (53 - bl m) % 4503599627370496 = m * 2 ^ (53 - bl m) by omega, exactS_shift, show (-1022 - ((53 - bl m : Nat) : Int) - 52 + ((53 - bl m : Nat) : Int) : Int) = -1074 by omega, exactS_sub (by omega) h4]
          rfl
        · rw [if_neg h4, fin_back neg _ _ (Nat.mod_lt _ (by decide)) (by omega), exactS_norm (by omega) (by omega) (by omega)]
          show (((signN neg + _ : Nat) : Int), (0 : Int)) = _
          congr 2
          omega
theorem dec_head : ∀ n : Nat, 10 ≤ n → (decDigits n).headD 0 ≠ 48 := by
  intro n
  induction n using Nat.strongRecOn with
  | _ n ih =>
    have hd : ∀ i : Fin 10, i.val ≠ 0 → UInt8.ofNat (48 + i.val) ≠ 48 := by decide
    intro h10
    rw [decDigits, dif_neg (by omega)]
    have hne := dec_ne (n / 10)
    have e : (decDigits (n / 10) ++ [UInt8.ofNat (48 + n % 10)]).headD 0 = (decDigits (n / 10)).headD 0 := by
      cases h : decDigits (n / 10) with
      | nil => exact absurd h hne
      | cons c r => rfl
    rw [e]
    by_cases h : 10 ≤ n / 10
    · exact ih _ (by omega) h
    · rw [decDigits, dif_pos (by omega)]
      exact hd ⟨n / 10, by omega⟩ (by show n / 10 ≠ 0; omega)
theorem dec_head0 {n : Nat} (h : 0 < n) : (decDigits n).headD 0 ≠ 48 := by
  by_cases h10 : 10 ≤ n
  · exact dec_head n h10
  · have hd : ∀ i : Fin 10, i.val ≠ 0 → UInt8.ofNat (48 + i.val) ≠ 48 := by decide
    rw [decDigits, dif_pos (by omega)]
    exact hd ⟨n, by omega⟩ (by show n ≠ 0; omega)
theorem dec_no45 (n : Nat) : ∀ r, decDigits n ≠ 45 :: r := by
  intro r h
  have := dec_dig n
  rw [h] at this
  simp [isDig] at this
theorem minus_dec (n : Nat) : minusB (decDigits n) = false := by
  unfold minusB
  cases h : decDigits n with
  | nil => rfl
  | cons c r =>
    have : c ≠ 45 := fun e => dec_no45 n r (by rw [h, e])
    simpa using this
theorem mag_dec (n : Nat) : magB (decDigits n) = decDigits n := by unfold magB; rw [minus_dec]; rfl
theorem minus_neg (n : Nat) : minusB (45 :: decDigits n) = true := rfl
theorem mag_neg (n : Nat) : magB (45 :: decDigits n) = decDigits n := rfl
theorem dec_lead (n : Nat) (h : (decDigits n).headD 0 = 48) : n = 0 ∧ (decDigits n).length = 1 := by
  rcases Nat.eq_zero_or_pos n with e | e
  · subst e; rw [decDigits, dif_pos (by decide)]; exact ⟨rfl, rfl⟩
  · exact absurd h (dec_head0 e)
theorem itoa_len30 {i : Int} (h : -9223372036854775808 ≤ i ∧ i ≤ 9223372036854775807) : (itoa i).length ≤ 31 := by
  unfold itoa
  split
  · have := decDigits_len (n := i.natAbs) (by omega); simp; omega
  · have := decDigits_len (n := i.toNat) (by omega); omega
theorem int_back (i : Int) (h : -9223372036854775808 ≤ i ∧ i ≤ 9223372036854775807) : parseIntT (itoa i) = (i, 0) := by
  have hl := itoa_len30 h
  unfold parseIntT
  rw [if_neg (by omega)]
  unfold itoa
  by_cases h0 : i < 0
  · rw [if_pos h0, mag_neg, minus_neg, if_neg (dec_ne _), if_neg (fun c => by have := (dec_lead _ c.1).1; omega), if_pos (dec_dig _), dec_val]
    unfold resI
    rw [if_pos rfl, if_pos (by omega)]
    congr 1
    omega
  · rw [if_neg h0, mag_dec, minus_dec, if_neg (dec_ne _), if_neg (fun c => by have := (dec_lead _ c.1).2; rcases c.2 with c | c; (· omega); cases c), if_pos (dec_dig _), dec_val]
    unfold resI
    rw [if_neg (by decide), if_pos (by omega)]
    congr 1
    omega
def Good (p : Int × Int) : Prop := p.2 = 0 → ∃ b : Nat, p.1 = (b : Int) ∧ b < 18446744073709551616 ∧ canonN b = b
theorem Good.ok {b : Nat} (h : b < 18446744073709551616) (hc : canonN b = b) : Good ((b : Int), 0) := fun _ => ⟨b, rfl, h, hc⟩
theorem finT_shape (s : List UInt8) (e : Int) (f : Nat) : ∃ t, finT s e f = s ++ 48 :: 120 :: t ∧ t.length ≤ 30 + (expT e).length := by
  have hx := hexs_len 13 f
  refine ⟨49 :: ((if f = 0 then [] else [46]) ++ hexs 13 f ++ expT e), by unfold finT; simp, ?_⟩
  have : (if f = 0 then ([] : List UInt8) else [46]).length ≤ 1 := by split <;> simp
  simp only [List.length_append, List.length_cons]; omega
theorem float_len (b : Nat) : (floatT b).length ≤ 40 := by
  have hs : (signT b).length ≤ 1 := by unfold signT; split <;> simp
  unfold floatT floatM
  split
  · decide
  · split
    · simp; omega
    · split
      · simp; omega
      · split
        · obtain ⟨t, ht, hl⟩ := finT_shape (signT b) (-1022 - (53 - bl (b % 9223372036854775808) : Nat)) (b % 9223372036854775808 * 2 ^ (53 - bl (b % 9223372036854775808)) % 4503599627370496)
          have := expT_len (e := -1022 - (53 - bl (b % 9223372036854775808) : Nat)) (by omega)
          rw [ht]; simp only [List.length_append, List.length_cons]; omega
        · obtain ⟨t, ht, hl⟩ := finT_shape (signT b) ((b % 9223372036854775808 / 4503599627370496 : Nat) - 1023) (b % 9223372036854775808 % 4503599627370496)
          have := expT_len (e := ((b % 9223372036854775808 / 4503599627370496 : Nat) : Int) - 1023) (by have := Nat.mod_lt b (show 0 < 9223372036854775808 by decide); omega)
          rw [ht]; simp only [List.length_append, List.length_cons]; omega
theorem finT_sign (e : Int) (f : Nat) : finT [45] e f = 45 :: finT [] e f := by unfold finT; rfl
theorem floatM_sign {m : Nat} (h : ¬ 9218868437227405312 < m) : floatM [45] m = 45 :: floatM [] m := by
  unfold floatM
  rw [if_neg h, if_neg h]
  split
  · rfl
  · split
    · rfl
    · split
      · exact finT_sign _ _
      · exact finT_sign _ _
theorem floatT_pos {n : Nat} (h : n < 9223372036854775808) : floatT n = floatM [] n := by
  unfold floatT signT
  rw [if_neg (by omega), Nat.mod_eq_of_lt h]
theorem floatT_neg {n : Nat} (h : 9223372036854775808 ≤ n) (h2 : n < 18446744073709551616) : floatT n = floatM [45] (n - 9223372036854775808) := by
  unfold floatT signT
  rw [if_pos h, show n % 9223372036854775808 = n - 9223372036854775808 by omega]
theorem parse_dec (n : Nat) (h0 : 0 < n) (h : (decDigits n).length ≤ 60) : parseIntT (decDigits n) = resI false n := by
  unfold parseIntT
  rw [if_neg (by omega), mag_dec, minus_dec, if_neg (dec_ne _), if_neg (fun c => by have := (dec_lead _ c.1).1; omega), if_pos (dec_dig _), dec_val]
end Go.Proofs.YtjolkombhdibcaaDoor.Sp
end
section
namespace Go.Proofs.YtjolkombhdibcaaDoor.Pure
open Go.RowKit Go.Proofs.YtjolkombhdibcaaDoorW.PrintWords Go.Proofs.YtjolkombhdibcaaDoorW.PrintMore Go.Proofs.YtjolkombhdibcaaDoor.Given Go.Proofs.YtjolkombhdibcaaDoor.Print Go.Proofs.YtjolkombhdibcaaDoor.Sp
open Go.Lib (itoa decDigits)
set_option linter.unusedVariables false
theorem i64_of {a : Int} (h : (Lit.int .i64 a).wf = true) : -9223372036854775808 ≤ a ∧ a ≤ 9223372036854775807 := by
  simpa [Lit.wf, IntKind.min, IntKind.max, IntKind.signed, IntKind.bits] using h
theorem u64_of {a : Int} (h : (Lit.int .u64 a).wf = true) : 0 ≤ a ∧ a ≤ 18446744073709551615 := by
  simpa [Lit.wf, IntKind.min, IntKind.max, IntKind.signed, IntKind.bits] using h
theorem awake_ev : Ev (fun _ => (casketlaw11_awake.f).bind fun t490 => (some t490)) true := Ev.bind0 awake_f (Ev.ret rfl)
theorem run_app {p : UInt8 → Bool} {a : List UInt8} (ha : ∀ c ∈ a, p c = true) {d : UInt8} (hd : p d = false) (r : List UInt8) : Given.runN p (a ++ d :: r) = a.length := by
  induction a with
  | nil => exact run_stop hd r
  | cons c a ih =>
    rw [List.cons_append, run_cons (ha c (by simp)), ih (fun x hx => ha x (by simp [hx]))]
    simp; omega
theorem run_all {p : UInt8 → Bool} {a : List UInt8} (ha : ∀ c ∈ a, p c = true) : Given.runN p a = a.length := by
  induction a with
  | nil => rfl
  | cons c a ih =>
    rw [run_cons (ha c (by simp)), ih (fun x hx => ha x (by simp [hx]))]
    simp; omega
theorem takeWhile_all {p : UInt8 → Bool} {a : List UInt8} (ha : ∀ c ∈ a, p c = true) : a.takeWhile p = a := by
  rw [← take_run, run_all ha, List.take_length]
theorem toks_one {l : List UInt8} {t : T7} (p : Nat) (c : UInt8) (r : List UInt8) (hl : l = c :: r) (hb : ¬ Sp.blank c) (hc : c ≠ 35) (ht : nextT l = t) (he : te t = 0) (hq : tn t = (l.length : Nat)) :
    toks l p = [(tk t p, 0, 0), endE (p + l.length)] := by
  subst hl
  rw [toks_tok hb hc r p (c :: r).length (by rw [ht]; exact he) (by rw [ht]; exact hq), List.drop_length, toks_nil, ht]
theorem all_one {l : List UInt8} {t : T7} (c : UInt8) (r : List UInt8) (hl : l = c :: r) (hlen : l.length ≤ 60000) (hb : ¬ Sp.blank c) (hc : c ≠ 35) (ht : nextT l = t) (he : te t = 0) (hq : tn t = (l.length : Nat)) :
    allT l = ([tk t 0, (endE l.length).1], 0, 0) := by
  unfold allT seqT
  rw [if_neg (by omega), toks_one 0 c r hl hb hc ht he hq, Nat.zero_add]
  rfl
theorem minus_next (c : UInt8) (r : List UInt8) : nextT (45 :: c :: r) = tok 3 [45] 0 0 1 := by
  rw [nextT_cons, if_neg (by decide), if_neg (by
    intro h
    rcases pre2 (45 :: c :: r) with ⟨_, q, hq, _⟩ | ⟨hn, _, _⟩
    · cases hq
    · rw [hn] at h; cases h), if_neg (by decide), if_neg (by decide), markT_eq, if_neg (by
    rintro ⟨_, h⟩
    have : ∀ m ∈ marks2, m.head? ≠ some 45 := by decide
    exact this _ h rfl), if_pos (by decide)]
theorem toks_minus (c : UInt8) (r : List UInt8) : toks (45 :: c :: r) 0 = (tk (tok 3 [45] 0 0 1) 0, 0, 0) :: toks (c :: r) 1 := by
  rw [toks_tok (c := 45) (by rintro (h | h | h) <;> cases h) (by decide) (c :: r) 0 1 (by rw [minus_next]; rfl) (by rw [minus_next]; rfl), minus_next]
  rfl
theorem dig_low {c : UInt8} (h : isDig c = true) : lowB c = false := by
  unfold isDig at h
  have := of_decide_eq_true h
  unfold lowB
  rw [decide_eq_false (by omega), Bool.false_or]
  exact beq_eq_false_iff_ne.2 (fun e => by rw [e] at this; exact absurd this (by decide))
theorem dig_blank {c : UInt8} (h : isDig c = true) : ¬ Sp.blank c ∧ c ≠ 35 := by
  unfold isDig at h
  have := of_decide_eq_true h
  refine ⟨?_, fun e => by rw [e] at this; exact absurd this (by decide)⟩
  rintro (e | e | e) <;> (rw [e] at this; exact absurd this (by decide))
theorem digs_next {c : UInt8} {r : List UInt8} (h : ∀ x ∈ c :: r, isDig x = true) : nextT (c :: r) = wholeTok (c :: r) := by
  have hc := h c (by simp)
  rw [nextT_cons, if_neg (by rw [dig_low hc]; decide), if_neg (by
    intro hp
    rcases pre2 (c :: r) with ⟨_, q, hq, _⟩ | ⟨hn, _, _⟩
    · rw [hq] at h
      exact absurd (h 120 (by simp)) (by decide)
    · rw [hn] at hp; cases hp), if_pos hc, takeWhile_all h]
theorem dec_all (n : Nat) : ∀ x ∈ decDigits n, isDig x = true := List.all_eq_true.1 (dec_dig n)
theorem hexs_hex : ∀ (n f : Nat), f < 4503599627370496 → ∀ c ∈ hexs n f, hexB c = true
  | 0, _, _, c, h => by simp [hexs] at h
  | n + 1, f, hf, c, h => by
    unfold hexs at h
    split at h
    · simp at h
    · rcases List.mem_cons.1 h with rfl | h
      · rw [hexDB, hexV_hex (by omega)]; rfl
      · exact hexs_hex n _ (Nat.mod_lt _ (by decide)) c h
theorem dot_hex {c : UInt8} (h : hexB c = true) : dotB c = true := by unfold dotB; rw [h]; rfl
theorem exp_all (e : Int) : ∃ d s, expT e = 112 :: d :: s ∧ (d = 43 ∨ d = 45) ∧ (∀ x ∈ s, isDig x = true) := by
  unfold expT itoa
  by_cases h : e < 0
  · rw [if_pos h, if_pos h]
    exact ⟨45, _, rfl, .inr rfl, dec_all _⟩
  · rw [if_neg h, if_neg h]
    exact ⟨43, _, rfl, .inl rfl, dec_all _⟩
theorem fin_len (e : Int) (f : Nat) (hf : f < 4503599627370496) : dblN (finT [] e f) = (finT [] e f).length := by
  obtain ⟨d, s, h1, h2, h3⟩ := exp_all e
  obtain ⟨X, hX⟩ : ∃ X, (49 : UInt8) :: ((if f = 0 then [] else [46]) ++ hexs 13 f) = X := ⟨_, rfl⟩
  have hall : ∀ c ∈ X, dotB c = true := by
    rw [← hX]
    intro c hc
    rcases List.mem_cons.1 hc with rfl | hc
    · decide
    · rcases List.mem_append.1 hc with hc | hc
      · split at hc
        · simp at hc
        · rw [List.mem_singleton.1 hc]; decide
      · exact dot_hex (hexs_hex 13 f hf c hc)
  have hl : finT [] e f = 48 :: 120 :: (X ++ 112 :: d :: s) := by
    unfold finT
    rw [h1, ← hX]
    simp
  rw [hl]
  unfold dblN
  have hd : (48 :: 120 :: (X ++ 112 :: d :: s) : List UInt8).drop 2 = X ++ 112 :: d :: s := rfl
  have hr := run_app hall (d := 112) (by decide) (d :: s)
  have hd2 : (48 :: 120 :: (X ++ 112 :: d :: s) : List UInt8).drop (2 + X.length) = 112 :: d :: s := by
    rw [← List.drop_drop, hd]
    simp
  rw [hd, hr, hd2]
  have ht : tailN (112 :: d :: s) = 2 + s.length := by
    show 1 + expN (d :: s) = _
    have : expN (d :: s) = 1 + Given.runN isDig s := by rcases h2 with rfl | rfl <;> rfl
    rw [this, run_all h3]
    omega
  rw [ht]
  simp
  omega
theorem fin_next (e : Int) (f : Nat) (hf : f < 4503599627370496) (h : (pfS (finT [] e f)).2 = 0) : nextT (finT [] e f) = tok 5 [] 0 (pfS (finT [] e f)).1 ((finT [] e f).length : Nat) := by
  obtain ⟨t, ht, _⟩ := finT_shape [] e f
  have hn := fin_len e f hf
  rw [List.nil_append] at ht
  rw [ht] at hn h ⊢
  rw [nextT_cons, if_neg (by decide), if_pos (by rfl), hn, List.take_length]
  unfold floatTok
  rw [if_pos h]
theorem float_next {m : Nat} (hm : m < 9223372036854775808) : nextT (floatM [] m) = tok 5 [] 0 (pfS (floatM [] m)).1 ((floatM [] m).length : Nat) := by
  have hb := float_back m (by omega)
  rw [floatT_pos hm] at hb
  have h2 : (pfS (floatM [] m)).2 = 0 := by rw [hb]
  unfold floatM at h2 ⊢
  by_cases a1 : 9218868437227405312 < m
  · rw [if_pos a1]; decide +kernel
  · rw [if_neg a1] at h2 ⊢
    by_cases a2 : m = 9218868437227405312
    · rw [if_pos a2]; decide +kernel
    · rw [if_neg a2] at h2 ⊢
      by_cases a3 : m = 0
      · rw [if_pos a3]; decide +kernel
      · rw [if_neg a3] at h2 ⊢
        by_cases a4 : m < 4503599627370496
        · rw [if_pos a4] at h2 ⊢
          exact fin_next _ _ (Nat.mod_lt _ (by decide)) h2
        · rw [if_neg a4] at h2 ⊢
          exact fin_next _ _ (Nat.mod_lt _ (by decide)) h2
theorem float_first (m : Nat) : ∃ c r, floatM [] m = c :: r ∧ ¬ Sp.blank c ∧ c ≠ 35 ∧ c ≠ 45 := by
  by_cases h : 9218868437227405312 < m
  · refine ⟨110, [97, 110], by unfold floatM; rw [if_pos h], ?_, by decide, by decide⟩
    rintro (e | e | e) <;> cases e
  · have key : ∀ c : UInt8, (c = 105 ∨ c = 48) → ¬ Sp.blank c ∧ c ≠ 35 ∧ c ≠ 45 := by
      rintro c (rfl | rfl)
      · exact ⟨(by rintro (e | e | e) <;> cases e), by decide, by decide⟩
      · exact ⟨(by rintro (e | e | e) <;> cases e), by decide, by decide⟩
    unfold floatM
    rw [if_neg h]
    split
    · exact ⟨105, [110, 102], rfl, key _ (.inl rfl)⟩
    · split
      · exact ⟨48, [120, 48, 112, 43, 48], rfl, key _ (.inr rfl)⟩
      · split
        · obtain ⟨t, ht, _⟩ := finT_shape [] (-1022 - (53 - bl m : Nat)) (m * 2 ^ (53 - bl m) % 4503599627370496)
          exact ⟨48, 120 :: t, ht, key _ (.inr rfl)⟩
        · obtain ⟨t, ht, _⟩ := finT_shape [] ((m / 4503599627370496 : Nat) - 1023) (m % 4503599627370496)
          exact ⟨48, 120 :: t, ht, key _ (.inr rfl)⟩
theorem j0_minus (c : UInt8) (r : List UInt8) (x y : S30) (W : Bool) (i b : Int) : Ev (fun k => casketlaw11_LexNumbers.j0 k (bs (45 :: c :: r)) [tk (tok 3 [45] 0 0 1) 0, x, y] false W i b 0 0) true := by
  refine Ev.step (fun k => by rw [casketlaw11_LexNumbers.j0]) ?_
  rw [bt0, bs_size]
  refine Ev.no (by simp) (Ev.yes (by simp <;> omega) (Ev.yes rfl (Ev.yes rfl (Ev.yes rfl (Ev.yes (by simp) (Ev.yes ?_ awake_ev))))))
  show (bs [45]).toList = _
  rw [bs_toList]
theorem j0_plain (l : List UInt8) (c : UInt8) (r : List UInt8) (hl : l = c :: r) (hc : c ≠ 45) (t : T7) (W : Bool) (i b : Int)
    (hj : Ev (fun k => casketlaw11_LexNumbers.j1 k (bs l) [tk t 0, (endE l.length).1] false W i b) true) :
    Ev (fun k => casketlaw11_LexNumbers.j0 k (bs l) [tk t 0, (endE l.length).1] false W i b 0 0) true := by
  refine Ev.step (fun k => by rw [casketlaw11_LexNumbers.j0]) ?_
  have hlen : l.length = r.length + 1 := by rw [hl]; simp
  have hb : bt (bs l) 0 = (c.toNat : Int) := by rw [hl]; exact bt0 c r
  rw [hb, bs_size]
  refine Ev.no (by simp) (Ev.yes (by omega) (Ev.no (fun e => hc (u8_eq (n := 45) e (by decide))) (Ev.yes rfl (Ev.yes rfl (Ev.yes (by simp) (Ev.yes rfl (Ev.yes (by simp) ?_)))))))
  have e : (((rd_T30 [tk t 0, (endE l.length).1] 1).f1) != (l.length : Int)) = false := by
    show ((l.length : Int) != (l.length : Int)) = false
    simp
  rw [e]
  exact hj
theorem LexNumbers (W : Bool) (i b : Int) (hi : (Lit.int .i64 i).wf = true) (hb : (Lit.int .u64 b).wf = true) : ∃ k, casketlaw11_LexNumbers.f k W i b = some true := by
  have hi := i64_of hi
  have hb := u64_of hb
  obtain ⟨n, rfl⟩ := Int.eq_ofNat_of_zero_le hb.1
  refine Ev.rounds (g := fun k => casketlaw11_LexNumbers.f k W i (n : Int)) ?_
  unfold casketlaw11_LexNumbers.f
  refine Ev.bind (text_ev W i n hi (by omega)) ?_
  rw [bs_toList]
  unfold textS
  cases W with
  | true =>
    rw [if_pos rfl]
    have hlen := itoa_len30 hi
    unfold itoa at hlen ⊢
    by_cases h0 : i < 0
    · rw [if_pos h0] at hlen ⊢
      refine Ev.no (by simp) (Ev.bind0 (all_f _ (Nat.le_trans hlen (show 31 ≤ 1000000 by decide))) (Ev.yes rfl ?_))
      cases hd : decDigits i.natAbs with
      | nil => exact absurd hd (dec_ne _)
      | cons c r =>
        have hall := dec_all i.natAbs
        rw [hd] at hall hlen
        have hdb := dig_blank (hall c (by simp))
        have hnx := digs_next hall
        have hl0 : ¬ 65536 < (45 :: c :: r).length := by omega
        have hlr : (c :: r).length ≤ 60 := by simp at hlen ⊢; omega
        have hp : parseIntT (c :: r) = resI false i.natAbs := by
          have := parse_dec i.natAbs (by omega) (by rw [hd]; exact hlr)
          rw [hd] at this; exact this
        by_cases hm : i = -9223372036854775808
        · have hx : (i == (-9223372036854775808 : Int)) = true := by rw [hm]; rfl
          rw [hx]
          have hbad : nextT (c :: r) = bad 62 := by
            rw [hnx]
            unfold wholeTok
            rw [hp, if_neg (by rw [hm]; decide)]
          have ha : allT (45 :: c :: r) = ([], 62, 1) := by
            unfold allT seqT
            rw [if_neg hl0, toks_minus, toks_bad hdb.1 hdb.2 r 1 (by rw [hbad]; decide), hbad]
            rfl
          rw [ha]
          refine Ev.step (fun k => by rw [casketlaw11_LexNumbers.j0]) ?_
          exact Ev.yes rfl (Ev.yes rfl (Ev.yes rfl awake_ev))
        · have hx : (i == (-9223372036854775808 : Int)) = false := beq_eq_false_iff_ne.2 hm
          rw [hx]
          have hok : resI false i.natAbs = ((i.natAbs : Int), 0) := by
            unfold resI
            rw [if_neg (by decide), if_pos (by omega)]
          have hnext : nextT (c :: r) = tok 4 [] (i.natAbs : Int) 0 ((c :: r).length : Nat) := by
            rw [hnx]
            unfold wholeTok
            rw [hp, hok, if_pos rfl]
          have ha : allT (45 :: c :: r) = ([tk (tok 3 [45] 0 0 1) 0, tk (tok 4 [] (i.natAbs : Int) 0 ((c :: r).length : Nat)) 1, (endE (1 + (c :: r).length)).1], 0, 0) := by
            unfold allT seqT
            rw [if_neg hl0, toks_minus, toks_one 1 c r rfl hdb.1 hdb.2 hnext rfl rfl]
            rfl
          rw [ha]
          exact j0_minus c r _ _ _ _ _
    · rw [if_neg h0] at hlen ⊢
      refine Ev.no (dec_ne _) (Ev.bind0 (all_f _ (by omega)) (Ev.yes rfl ?_))
      have hx : (i == (-9223372036854775808 : Int)) = false := beq_eq_false_iff_ne.2 (by omega)
      rw [hx]
      cases hd : decDigits i.toNat with
      | nil => exact absurd hd (dec_ne _)
      | cons c r =>
        have hall := dec_all i.toNat
        have hback := int_back i hi
        unfold itoa at hback
        rw [if_neg h0, hd] at hback
        rw [hd] at hall hlen
        have hcd := hall c (by simp)
        have hdb := dig_blank hcd
        have hnext : nextT (c :: r) = tok 4 [] i 0 ((c :: r).length : Nat) := by
          rw [digs_next hall]
          unfold wholeTok
          rw [hback, if_pos rfl]
        have hc45 : c ≠ 45 := fun e => by rw [e] at hcd; exact absurd hcd (by decide)
        rw [all_one c r rfl (by omega) hdb.1 hdb.2 hnext rfl rfl]
        refine j0_plain (c :: r) c r rfl hc45 _ true i n ?_
        refine Ev.step (fun k => by rw [casketlaw11_LexNumbers.j1]) ?_
        exact Ev.no (by simp) (Ev.yes rfl (Ev.yes (by simp) (Ev.yes rfl (Ev.yes rfl awake_ev))))
  | false =>
    rw [if_neg (by decide), Int.toNat_natCast]
    have hlen := float_len n
    by_cases hs : n < 9223372036854775808
    · rw [floatT_pos hs] at hlen ⊢
      obtain ⟨c, r, hcr, hb1, hb2, hb3⟩ := float_first n
      refine Ev.no (by rw [hcr]; simp) (Ev.bind0 (all_f _ (by omega)) (Ev.no (by decide) ?_))
      have hnext := float_next hs
      rw [all_one c r hcr (by omega) hb1 hb2 hnext rfl rfl]
      refine j0_plain (floatM [] n) c r hcr hb3 _ false i n ?_
      refine Ev.step (fun k => by rw [casketlaw11_LexNumbers.j1]) ?_
      refine Ev.no (by simp) (Ev.no (by simp) (Ev.bind (parseFloat_ev _ (by omega)) ?_))
      exact Ev.yes (by simp) (Ev.yes rfl (Ev.yes rfl awake_ev))
    · have hn : 9223372036854775808 ≤ n := by omega
      rw [floatT_neg hn (by omega)] at hlen ⊢
      obtain ⟨m, hm⟩ : ∃ m, n - 9223372036854775808 = m := ⟨_, rfl⟩
      have hm63 : m < 9223372036854775808 := by omega
      rw [hm] at hlen ⊢
      clear hm
      by_cases h : 9218868437227405312 < m
      · have hnan : floatM [45] m = [110, 97, 110] := by unfold floatM; rw [if_pos h]
        rw [hnan]
        refine Ev.no (by simp) (Ev.bind0 (all_f _ (by decide)) (Ev.no (by decide) ?_))
        have hnext : nextT [110, 97, 110] = tok 5 [] 0 (pfS [110, 97, 110]).1 (([110, 97, 110] : List UInt8).length : Nat) := by decide +kernel
        rw [all_one 110 [97, 110] rfl (by decide) (by rintro (e | e | e) <;> cases e) (by decide) hnext rfl rfl]
        refine j0_plain [110, 97, 110] 110 [97, 110] rfl (by decide) _ false i n ?_
        refine Ev.step (fun k => by rw [casketlaw11_LexNumbers.j1]) ?_
        refine Ev.no (by simp) (Ev.no (by simp) (Ev.bind (parseFloat_ev _ (by decide)) ?_))
        exact Ev.yes (by simp) (Ev.yes rfl (Ev.yes rfl awake_ev))
      · rw [floatM_sign h] at hlen ⊢
        obtain ⟨c, r, hcr, hb1, hb2, hb3⟩ := float_first m
        have hnext := float_next hm63
        refine Ev.no (by simp) (Ev.bind0 (all_f _ (by omega)) (Ev.no (by decide) ?_))
        have ha : allT (45 :: floatM [] m) = ([tk (tok 3 [45] 0 0 1) 0, tk (tok 5 [] 0 (pfS (floatM [] m)).1 ((floatM [] m).length : Nat)) 1, (endE (1 + (floatM [] m).length)).1], 0, 0) := by
          unfold allT seqT
          have ht := toks_one 1 c r hcr hb1 hb2 hnext rfl rfl
          rw [if_neg (by omega)]
          rw [hcr] at ht ⊢
          rw [toks_minus, ht]
          rfl
        rw [ha]
        rw [hcr]
        exact j0_minus c r _ _ _ _ _
end Go.Proofs.YtjolkombhdibcaaDoor.Pure
namespace Go.Proofs.YtjolkombhdibcaaDoor.Print
open Go.RowKit Go.Proofs.YtjolkombhdibcaaDoorW.PrintWords Go.Proofs.YtjolkombhdibcaaDoor.Given
theorem casketlaw11_LexNumbers.walk (x : Bool) (i b : Int) (w : World) (hG : Given.Glob w) (wi : (Lit.int .i64 i).wf = true) (wb : (Lit.int .u64 b).wf = true) :
    Calls Tryd.prog 7 #[.agg #[.bool x, .int .i64 i, .int .u64 b]] w fun e w' => e = .returned (.bool true) ∧ Below w.heap.size w w' := by
  obtain ⟨k, h⟩ := Pure.LexNumbers x i b wi wb
  refine (casketlaw11_LexNumbers.calls (hG := hG) k x i b true w h).mono ?_
  rintro e w' ⟨rfl, hd⟩
  exact ⟨rfl, hd⟩
end Go.Proofs.YtjolkombhdibcaaDoor.Print
namespace Go.Proofs.YtjolkombhdibcaaDoor.lexNumbers
open Go.ChangeShapes Go.WideShapes Go.ChangeAt Go.RowKit Go.Joins
open Go.ChangeMaps (open_string shut_string)
set_option linter.unusedVariables false
set_option maxRecDepth 100000 in
theorem lifted (os : Os) (started : os.Started) (H : Type) (enc : TypeId × Value → H) :
    ReturnsInHanded {} Tryd.checked os 7 .any (fun w args => (Rows.lexNumbersSpec.pre enc Tryd.prog Tryd.f7 [] false w args ∧ laidMetH Tryd.prog Laid.laid w) ∧ sizedMet enc Tryd.prog Tryd.f7 (OpenSpec.ofChange Rows.lexNumbersSpec) false w args) (Rows.lexNumbersSpec.post enc Tryd.prog Tryd.f7 false true false false) := by
  refine returnsInHanded_of_change_and (C := Tryd.checked) (X := fun w _ => laidMetH Tryd.prog Laid.laid w) (fun _ _ _ hh h => h.of_heap hh) Laid.own started (by kernel_rfl) Tryd.func7
    (ChangeSpec.witness_shaped (enc := enc) (C := Tryd.checked) (os := os) (X := fun w _ => laidMetH Tryd.prog Laid.laid w) false (World.doorLaid Tryd.prog 62 os) #[.agg #[.bool false, .int .i64 0, .int .u64 0]] 8 rfl (World.shaped_of_RefB (by kernel_rfl) (by kernel_rfl)) (by kernel_rfl) (by kernel_rfl) (by kernel_rfl) (Laid.door_met os _)) ?_
  intro W base args ds gs before hval0 hW hcnd hsz0 hL _
  have hsz : (DataW.weightsEach Tryd.prog (Tryd.f7.params.toList ++ Rows.lexNumbersSpec.plain.varTypes Tryd.prog) (ds ++ gs)).all (· ≤ reachBytes) = true := hsz0
  have hval : ∀ (j : Nat) t v, Tryd.f7.params[j]? = some t → args[j]? = some v → Value.okWide Tryd.prog W .any base t v := hval0
  have hW' := hW
  obtain ⟨p, q, hA0, hV, rfl, hfz, hnd⟩ := hW
  have hA : DataW.TrodAll enc Tryd.prog W 0 (fun _ => true) true Tryd.f7.params.toList args.toList ds p := hA0
  rw [Tryd.params7] at hA hval hsz
  obtain ⟨v0, vs0, d0, ds0, p0, q0, hargs, rfl, rfl, h0, r0⟩ := trodAll_cons hA
  obtain ⟨rfl, rfl, rfl⟩ := trodAll_nil r0
  obtain rfl : args = #[v0] := by cases args; simp_all
  obtain ⟨rfl, rfl⟩ := trodVars_none hV
  have hG : Given.Glob W := Laid.of_laid hL
  obtain ⟨c0, c1, c2, y0, y1, y2, m, rfl, rfl, rfl, e0, e1, e2⟩ := open_agg3 Tryd.underlying42 (by kernel_rfl) (show Tryd.prog.cellsOf 42 = 3 by kernel_rfl) (hval 0 42 v0 rfl rfl) h0
  obtain ⟨a0, g0, rfl⟩ := DataW.trod_bool Tryd.underlying4 e0
  obtain ⟨a1, g1, rfl, w1⟩ := DataW.trod_int Tryd.underlying2 e1
  obtain ⟨a2, g2, rfl, w2⟩ := DataW.trod_int Tryd.underlying28 e2
  simp at g0 g1 g2
  subst g0 g1 g2
  simp only [List.append_nil] at hW'
  clear hA0 hval0 hsz0 hsz
  refine (Print.casketlaw11_LexNumbers.walk  a0 a1 a2 W hG w1 w2).mono fun e W' ⟨he, bel⟩ => ?_
  subst he
  exact ⟨_, rfl, _, _, _, [], _, [], hW', trodAll_mk1 (shut_bool Tryd.underlying4 _), (trodAll_cons_mk (shut_agg3 (y0 := (.lit (.bool a0), [])) (y1 := (.lit (.int .i64 a1), [])) (y2 := (.lit (.int .u64 a2), [])) Tryd.underlying42 (by kernel_rfl) (show Tryd.prog.cellsOf 42 = 3 by kernel_rfl) (shut_bool Tryd.underlying4 a0) ⟨1, trod_int_mk 0 Tryd.underlying2 w1⟩ ⟨1, trod_int_mk 0 Tryd.underlying28 w2⟩) trodAll_mk0), rfl, bel.frame _, fun h => by cases h⟩
theorem over : Rows.lexNumbersRow.holds Tryd.pinned (OpenSpec.ofChange Rows.lexNumbersSpec) :=
  OpenClaim.holds_of_wide 7 Tryd.f7 rfl rfl rfl rfl rfl rfl rfl ⟨rfl, rfl, rfl, rfl, rfl⟩ rfl rfl rfl rfl rfl (by kernel_rfl) Tryd.func7 (by kernel_rfl)
    (of_decide_eq_true (by kernel_rfl)) (by unfold Func.isWrapper; first | (rw [if_pos (by decide +kernel)]; kernel_rfl) | (rw [if_neg (by decide +kernel)]; exact ⟨rfl, rfl⟩))
    (fun os started H enc _ => lifted os started H enc)
theorem card_holds : Rows.LexNumbersCardSaid :=
  Claim7.holds_tied_plain_at .later [] [.data, .data, .data, .sentinel, .sentinel] true (true, "431a033b8f36b9d9c52e85b2436dbd75d9d44333d6a5eb7a63f0f069f0875b74") true
    over (fun _ h => by cases h) (by kernel_rfl) (fun _ h => by cases h) lexNumbers_row_tie rfl ⟨rfl, rfl⟩ (by kernel_rfl) rfl
    (fun f fn hf hfn => by
      obtain rfl : f = 7 := Option.some.inj ((show Tryd.prog.funcNamed "casket/casketlaw11.LexNumbers" = some 7 by kernel_rfl).symm.trans hf) |>.symm
      obtain rfl : fn = Tryd.f7 := (Option.some.inj (Tryd.func7.symm.trans hfn)).symm
      exact ⟨by kernel_rfl, fun j t ht => by
        rw [Tryd.params7] at ht
        have hm : t ∈ [42] := by simpa using Array.mem_of_getElem? ht
        have hall : ([42].all fun u => !Tryd.prog.wantsStandIn u) = true := by kernel_rfl
        exact (show Tryd.prog.wantsStandIn t = false by simpa using List.all_eq_true.1 hall t hm)⟩)
    (by kernel_rfl)
#print axioms card_holds
end Go.Proofs.YtjolkombhdibcaaDoor.lexNumbers
namespace Go.Proofs.YtjolkombhdibcaaDoor
theorem lexNumbers_card : Rows.LexNumbersCardSaid := lexNumbers.card_holds
end Go.Proofs.YtjolkombhdibcaaDoor
end
