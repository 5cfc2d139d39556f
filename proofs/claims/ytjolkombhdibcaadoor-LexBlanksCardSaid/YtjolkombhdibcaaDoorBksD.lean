/- LexBlanks: the row, and the tied card: for every input the law answers true; the arguments read behind the call as before. The listed variables of Go's library are tied to the program's text (in a pruned copy of the project). -/
/- Packed by a program of this session (wip/tools/pack.py): the declarations of its texts that this claim needs. Not trusted: Lean checks it. -/
import Derived.Test.YtjolkombhdibcaaDoorBksC
import Derived.Test.YtjolkombhdibcaaDoorCards
import Derived.Test.YtjolkombhdibcaaDoorTie
import Derived.Carry
import Derived.ChangeOld
import Derived.SizedLaws
import Derived.SevenTiedAt
import Derived.Lib.SmallJoins
import Derived.Deep.Strs
import Derived.Test.YtjolkombhdibcaaDoorChecked
section
namespace Go.Proofs.YtjolkombhdibcaaDoor.Print
open Go.RowKit Go.Proofs.YtjolkombhdibcaaDoor.Given Go.Proofs.YtjolkombhdibcaaDoorW.PrintWords Go.Proofs.YtjolkombhdibcaaDoorW.PrintLast Go.Proofs.YtjolkombhdibcaaDoorW.PrintMore
attribute [local go_sem] max2_int min2_int max_two min_two max_three min_three max_four min_four
set_option linter.unusedVariables false
set_option linter.unusedSimpArgs false
theorem eqA30 (d : Nat) (w : World) (x0 y0 : Int) (x1 y1 : Int) (x2 y2 : ByteArray) (x3 y3 : Int) (x4 y4 : Int) :
  (Op.equalIn (d + 2) 30 (.agg #[.int .i64 x0, .int .i64 x1, .string x2, .int .i64 x3, .int .u64 x4]) (.agg #[.int .i64 y0, .int .i64 y1, .string y2, .int .i64 y3, .int .u64 y4])).run Tryd.prog w = .ok (x0 == y0 && (x1 == y1 && (x2.toList == y2.toList && (x3 == y3 && (x4 == y4))))) w := by
 refine eqA_of Tryd.underlying30 (by kernel_rfl) ?_
 refine eqf_cons (by rfl) (by go_simp; rfl) (by go_simp; rfl) (by go_simp) ?_
 refine eqf_cons (by rfl) (by go_simp; rfl) (by go_simp; rfl) (by go_simp) ?_
 refine eqf_cons (by rfl) (by go_simp; rfl) (by go_simp; rfl) (by go_simp) ?_
 refine eqf_cons (by rfl) (by go_simp; rfl) (by go_simp; rfl) (by go_simp) ?_
 exact eqf_last (by rfl) (by go_simp; rfl) (by go_simp; rfl) (by go_simp)
end Go.Proofs.YtjolkombhdibcaaDoor.Print
end
section
namespace Go.Proofs.YtjolkombhdibcaaDoor.Print
open Go.RowKit Go.Proofs.YtjolkombhdibcaaDoor.Given Go.Proofs.YtjolkombhdibcaaDoorW.PrintWords Go.Proofs.YtjolkombhdibcaaDoorW.PrintLast Go.Proofs.YtjolkombhdibcaaDoorW.PrintMore
attribute [local go_sem] max2_int min2_int max_two min_two max_three min_three max_four min_four
set_option linter.unusedVariables false
set_option linter.unusedSimpArgs false
attribute [local go_sem high] eqA25 eqA30
theorem x68_14 {p : Prop} (h : p := by first | (with_reducible assumption) | assumption) : p := h
theorem x68_13 {p : Prop} (h : p := by first | rfl | (simp [errW_none, errW_some] <;> rfl) | (simp [*, errW_none, errW_some] <;> rfl)) : p := h
theorem x68_12 {p : Prop} (h : p := by (with_reducible repeat (first | apply Kd.R_alloc | apply Kd.R_drewN | apply Kd.R_drew)); exact HO427.out) : p := h
theorem x68_11 {p : Prop} (h : p := by first | (rw [add_block]; exact hn434_1) | (show (Addr.add _ _).block ≠ _; rw [add_block]; exact hn434_1) | exact hn434_1) : p := h
theorem x68_10 {p : Prop} (h : p := by first | (rw [add_block]; exact hn434_0) | (show (Addr.add _ _).block ≠ _; rw [add_block]; exact hn434_0) | exact hn434_0) : p := h
theorem x68_9 {p : Prop} (h : p := by first | (rw [add_block]; exact hn433_1) | (show (Addr.add _ _).block ≠ _; rw [add_block]; exact hn433_1) | exact hn433_1) : p := h
theorem x68_8 {p : Prop} (h : p := by first | (rw [add_block]; exact hn433_0) | (show (Addr.add _ _).block ≠ _; rw [add_block]; exact hn433_0) | exact hn433_0) : p := h
theorem x68_7 {p : Prop} (h : p := by first | (rw [add_block]; exact hn432_1) | (show (Addr.add _ _).block ≠ _; rw [add_block]; exact hn432_1) | exact hn432_1) : p := h
theorem x68_6 {p : Prop} (h : p := by first | (rw [add_block]; exact hn432_0) | (show (Addr.add _ _).block ≠ _; rw [add_block]; exact hn432_0) | exact hn432_0) : p := h
theorem x68_5 {p : Prop} (h : p := by first | (rw [add_block]; exact hn431_1) | (show (Addr.add _ _).block ≠ _; rw [add_block]; exact hn431_1) | exact hn431_1) : p := h
theorem x68_4 {p : Prop} (h : p := by first | (rw [add_block]; exact hn431_0) | (show (Addr.add _ _).block ≠ _; rw [add_block]; exact hn431_0) | exact hn431_0) : p := h
theorem x68_3 {p : Prop} (h : p := by repeat (first | (with_reducible first | exact HB.out | apply below_alloc | apply pw_below_drewN | apply below_drew1) | exact HB.out)) : p := h
theorem x68_2 {p : Prop} (h : p := by (try simp only [List.map_toArray, List.map_cons, List.map_nil]); first | done | rfl | (simp only [List.length_drop, List.length_take]; rfl)) : p := h
theorem x68_1 {p : Prop} (h : p := by repeat (first | (with_reducible first | exact HB.out | apply below_alloc | apply pw_below_drewN | apply below_drew1 | refine below_set ?_ GE430.out) | exact HB.out)) : p := h
theorem x68_0 {p : Prop} (h : p := by first | exact Glob.at_ HG0.out x68_1 | exact Glob.at_ HG0.out (Below.refl _ _)) : p := h
def casketlaw11_awake.f  : Option (Bool) := (lex_All.f (⟨#[108, 101, 116, 32, 120, 61, 49, 46, 46, 50, 32, 35, 32, 121]⟩ : ByteArray)).bind fun bt425 => (if (bt425.1.length : Int) = 7 then (if 1 < (bt425.1.length : Int) then (if (((rd_T30 bt425.1 1).f0) == 1 && (((rd_T30 bt425.1 1).f1) == 4 && ((((rd_T30 bt425.1 1).f2).toList) == ([120] : List UInt8) && (((rd_T30 bt425.1 1).f3) == 0 && (((rd_T30 bt425.1 1).f4) == 0))))) = true then (if 4 < (bt425.1.length : Int) then (if (((rd_T30 bt425.1 4).f0) == 3 && (((rd_T30 bt425.1 4).f1) == 7 && ((((rd_T30 bt425.1 4).f2).toList) == ([46, 46] : List UInt8) && (((rd_T30 bt425.1 4).f3) == 0 && (((rd_T30 bt425.1 4).f4) == 0))))) = true then (if 6 < (bt425.1.length : Int) then (if ((rd_T30 bt425.1 6).f0) = 7 then (if ((rd_T30 bt425.1 6).f1) = 14 then (some (bt425.2.1 == 0 && (bt425.2.2 == 0))) else (some false)) else (some false)) else (none)) else (some false)) else (none)) else (some false)) else (none)) else (some false))
set_option maxHeartbeats 8000000 in
set_option maxRecDepth 100000 in
theorem casketlaw11_awake.calls  (r : Bool) (w : World) (hG : Glob w) (h : casketlaw11_awake.f  = some r) :
  Calls Tryd.prog 12 #[] w fun e w' => e = .returned (.bool r) ∧ Below w.heap.size w w' := by
 have HG0 := Aside0.mk hG
 clear hG
 have hu25 := Tryd.underlying25
 have hu30 := Tryd.underlying30
 have HB := Aside0.mk (Below.refl w.heap.size w)
 have H : ((lex_All.f (⟨#[108, 101, 116, 32, 120, 61, 49, 46, 46, 50, 32, 35, 32, 121]⟩ : ByteArray)).bind fun bt425 => (if (bt425.1.length : Int) = 7 then (if 1 < (bt425.1.length : Int) then (if (((rd_T30 bt425.1 1).f0) == 1 && (((rd_T30 bt425.1 1).f1) == 4 && ((((rd_T30 bt425.1 1).f2).toList) == ([120] : List UInt8) && (((rd_T30 bt425.1 1).f3) == 0 && (((rd_T30 bt425.1 1).f4) == 0))))) = true then (if 4 < (bt425.1.length : Int) then (if (((rd_T30 bt425.1 4).f0) == 3 && (((rd_T30 bt425.1 4).f1) == 7 && ((((rd_T30 bt425.1 4).f2).toList) == ([46, 46] : List UInt8) && (((rd_T30 bt425.1 4).f3) == 0 && (((rd_T30 bt425.1 4).f4) == 0))))) = true then (if 6 < (bt425.1.length : Int) then (if ((rd_T30 bt425.1 6).f0) = 7 then (if ((rd_T30 bt425.1 6).f1) = 14 then (some (bt425.2.1 == 0 && (bt425.2.2 == 0))) else (some false)) else (some false)) else (none)) else (some false)) else (none)) else (some false)) else (none)) else (some false))) = some r := h
 clear h
 replace H := Option.bind_eq_some_iff.mp H
 obtain ⟨⟨t425, t428, t429⟩, A10, H⟩ := H
 replace H : (if (t425.length : Int) = 7 then (if 1 < (t425.length : Int) then (if (((rd_T30 t425 1).f0) == 1 && (((rd_T30 t425 1).f1) == 4 && ((((rd_T30 t425 1).f2).toList) == ([120] : List UInt8) && (((rd_T30 t425 1).f3) == 0 && (((rd_T30 t425 1).f4) == 0))))) = true then (if 4 < (t425.length : Int) then (if (((rd_T30 t425 4).f0) == 3 && (((rd_T30 t425 4).f1) == 7 && ((((rd_T30 t425 4).f2).toList) == ([46, 46] : List UInt8) && (((rd_T30 t425 4).f3) == 0 && (((rd_T30 t425 4).f4) == 0))))) = true then (if 6 < (t425.length : Int) then (if ((rd_T30 t425 6).f0) = 7 then (if ((rd_T30 t425 6).f1) = 14 then (some (t428 == 0 && (t429 == 0))) else (some false)) else (some false)) else (none)) else (some false)) else (none)) else (some false)) else (none)) else (some false)) = some r := H
 have A1 := Aside0.mk A10
 clear A10
 by_cases c2 : (t425.length : Int) = 7
 ·rw [if_pos c2] at H
  have c2b0 := beq_iff_eq.mpr c2
  have c2b1 := bne_eq_false_iff_eq.mpr c2
  clear c2
  by_cases c3 : 1 < (t425.length : Int)
  ·rw [if_pos c3] at H
   have c3b0 := decide_eq_true c3
   have c3b1 : decide (1 < t425.length) = true := decide_eq_true (by omega)
   clear c3
   by_cases c4 : (((rd_T30 t425 1).f0) == 1 && (((rd_T30 t425 1).f1) == 4 && ((((rd_T30 t425 1).f2).toList) == ([120] : List UInt8) && (((rd_T30 t425 1).f3) == 0 && (((rd_T30 t425 1).f4) == 0))))) = true
   ·rw [if_pos c4] at H
    have c4b0 : (((rd_T30 t425 1).f0) == 1 && (((rd_T30 t425 1).f1) == 4 && ((((rd_T30 t425 1).f2).toList) == ([120] : List UInt8) && (((rd_T30 t425 1).f3) == 0 && (((rd_T30 t425 1).f4) == 0))))) = true := c4
    (try (have c4b1 : decide (((rd_T30 t425 1).f0) = 1 && (((rd_T30 t425 1).f1) == 4 && ((((rd_T30 t425 1).f2).toList) == ([120] : List UInt8) && (((rd_T30 t425 1).f3) == 0 && (((rd_T30 t425 1).f4) == 0))))) = true := by simpa using c4))
    (try (have c4b2 : (((rd_T30 t425 1).f0) == 1 && (((rd_T30 t425 1).f1) == 4 && ((((rd_T30 t425 1).f2).toList) == ([120] : List UInt8) && (((rd_T30 t425 1).f3) == 0 && (((rd_T30 t425 1).f4) == 0))))) = true := by simpa using c4))
    clear c4
    by_cases c5 : 4 < (t425.length : Int)
    ·rw [if_pos c5] at H
     have c5b0 := decide_eq_true c5
     have c5b1 : decide (4 < t425.length) = true := decide_eq_true (by omega)
     clear c5
     by_cases c6 : (((rd_T30 t425 4).f0) == 3 && (((rd_T30 t425 4).f1) == 7 && ((((rd_T30 t425 4).f2).toList) == ([46, 46] : List UInt8) && (((rd_T30 t425 4).f3) == 0 && (((rd_T30 t425 4).f4) == 0))))) = true
     ·rw [if_pos c6] at H
      have c6b0 : (((rd_T30 t425 4).f0) == 3 && (((rd_T30 t425 4).f1) == 7 && ((((rd_T30 t425 4).f2).toList) == ([46, 46] : List UInt8) && (((rd_T30 t425 4).f3) == 0 && (((rd_T30 t425 4).f4) == 0))))) = true := c6
      (try (have c6b1 : decide (((rd_T30 t425 4).f0) = 3 && (((rd_T30 t425 4).f1) == 7 && ((((rd_T30 t425 4).f2).toList) == ([46, 46] : List UInt8) && (((rd_T30 t425 4).f3) == 0 && (((rd_T30 t425 4).f4) == 0))))) = true := by simpa using c6))
      (try (have c6b2 : (((rd_T30 t425 4).f0) == 3 && (((rd_T30 t425 4).f1) == 7 && ((((rd_T30 t425 4).f2).toList) == ([46, 46] : List UInt8) && (((rd_T30 t425 4).f3) == 0 && (((rd_T30 t425 4).f4) == 0))))) = true := by simpa using c6))
      clear c6
      by_cases c7 : 6 < (t425.length : Int)
      ·rw [if_pos c7] at H
       have c7b0 := decide_eq_true c7
       have c7b1 : decide (6 < t425.length) = true := decide_eq_true (by omega)
       clear c7
       by_cases c8 : ((rd_T30 t425 6).f0) = 7
       ·rw [if_pos c8] at H
        have c8b0 := beq_iff_eq.mpr c8
        have c8b1 := bne_eq_false_iff_eq.mpr c8
        clear c8
        by_cases c9 : ((rd_T30 t425 6).f1) = 14
        ·rw [if_pos c9] at H
         have c9b0 := beq_iff_eq.mpr c9
         have c9b1 := bne_eq_false_iff_eq.mpr c9
         clear c9
         obtain rfl := Option.some.inj H
         go_enter Tryd.func12, Tryd.ntmps12
         go_wp2_with (first | ((with_reducible refine gate_callee (f := 9) rfl ?_); refine goesL_ (some 4) rfl rfl Tryd.func9 (by kernel_rfl) rfl #[.string (⟨#[108, 101, 116, 32, 120, 61, 49, 46, 46, 50, 32, 35, 32, 121]⟩ : ByteArray)] rfl x68_2 ?_; (with_reducible refine (lex_All.calls (hG := x68_0) (⟨#[108, 101, 116, 32, 120, 61, 49, 46, 46, 50, 32, 35, 32, 121]⟩ : ByteArray) t425 t428 t429 _ A1.out).mono ?_); rintro e w10 ⟨v426, rfl, ho0, hb⟩; refine ⟨_, rfl, ?_⟩; have n0_ := Aside0.mk (Kd.R_lower ho0 (below_size x68_3)); have n1_ := Aside0.mk (below_step x68_3 hb); clear HB; have HO427 := n0_; have HB := n1_; clear n0_ n1_) | ((with_reducible refine gate_dst (N := 2) rfl ?_); refine box_event ?hg (N := 2) ?hd (cs := #[.int .i64 0, .int .i64 0]) (t := 25) ?hr ?_; (case hd => rfl); (case hg => rfl); (case hr => first | (go_simp; done) | (go_simp; rfl)); intro gb430 hg w11 hbox hb; have n0_ := Aside0.mk (Kd.R_below x68_12 hb); have n1_ := Aside0.mk (below_step x68_3 hb); have n2_ := Aside0.mk (hbox); have n3_ := Aside0.mk ((by rw [hg]; exact (below_size x68_3) : w.heap.size ≤ gb430)); have n4_ := Aside0.mk ((by rw [hg]; exact (below_size x68_3) : w.heap.size ≤ gb430)); clear HO427; clear HB; have HO427 := n0_; have HB := n1_; have BK430 := n2_; have GW430 := n3_; have GE430 := n4_; clear n0_ n1_ n2_ n3_ n4_; clear hb hbox hg; have hcz12_0 : w11.cell? ⟨gb430, 0, none⟩ = some (.int .i64 0) := (blk_cell BK430.out 0).trans rfl; have hcz12_1 : w11.cell? ⟨gb430, 1, none⟩ = some (.int .i64 0) := (blk_cell BK430.out 1).trans rfl; have hfz12_0 := blk_frozen BK430.out 0; have hfz12_1 := blk_frozen BK430.out 1; obtain ⟨Ao13, co13, eo13⟩ := Kd.R_slice HO427.out; subst eo13; have p431 : 0 ≤ (1 : Int) := (by omega); have q431 : 1 < (t425.length : Int) := of_decide_eq_true x68_14; obtain ⟨ad431, e431, hx431_0, hx431_1, hx431_2, hx431_3, hx431_4⟩ := at_T30 (Kd.R_reads' HO427.out).2.2 1 p431 q431; cases e431; (try simp only [show (1 : Int).toNat = 1 from rfl, Nat.reduceMul, Nat.reduceEqDiff, Go.Addr.add, ↓reduceIte] at hx431_0); (try simp only [show (1 : Int).toNat = 1 from rfl, Nat.reduceMul, Nat.reduceEqDiff, Go.Addr.add, ↓reduceIte] at hx431_1); (try simp only [show (1 : Int).toNat = 1 from rfl, Nat.reduceMul, Nat.reduceEqDiff, Go.Addr.add, ↓reduceIte] at hx431_2); (try simp only [show (1 : Int).toNat = 1 from rfl, Nat.reduceMul, Nat.reduceEqDiff, Go.Addr.add, ↓reduceIte] at hx431_3); (try simp only [show (1 : Int).toNat = 1 from rfl, Nat.reduceMul, Nat.reduceEqDiff, Go.Addr.add, ↓reduceIte] at hx431_4); have qi431 : (1 < t425.length) = True := eq_true (by omega); (try rw [show ((1 : Int)).toNat = 1 from rfl] at hx431_0); (try rw [show 1 * 5 = 5 from rfl] at hx431_0); (try rw [show ((1 : Int)).toNat = 1 from rfl] at hx431_1); (try rw [show 1 * 5 = 5 from rfl] at hx431_1); (try rw [show ((1 : Int)).toNat = 1 from rfl] at hx431_2); (try rw [show 1 * 5 = 5 from rfl] at hx431_2); (try rw [show ((1 : Int)).toNat = 1 from rfl] at hx431_3); (try rw [show 1 * 5 = 5 from rfl] at hx431_3); (try rw [show ((1 : Int)).toNat = 1 from rfl] at hx431_4); (try rw [show 1 * 5 = 5 from rfl] at hx431_4); have hn431_0 : ad431.block ≠ gb430 := Kd.own_blk (Kd.R_ne HO427.out BK430.out (by decide)); have hn431_1 : ad431.block ≠ gb430 := Kd.own_blk (Kd.R_ne HO427.out BK430.out (by decide)); replace hx431_0 := (cell_far (p := ⟨gb430, 0, none⟩) x68_4 (.int .i64 t428)).trans hx431_0; replace hx431_1 := (cell_far (p := ⟨gb430, 0, none⟩) x68_4 (.int .i64 t428)).trans hx431_1; replace hx431_2 := (cell_far (p := ⟨gb430, 0, none⟩) x68_4 (.int .i64 t428)).trans hx431_2; replace hx431_3 := (cell_far (p := ⟨gb430, 0, none⟩) x68_4 (.int .i64 t428)).trans hx431_3; replace hx431_4 := (cell_far (p := ⟨gb430, 0, none⟩) x68_4 (.int .i64 t428)).trans hx431_4; replace hx431_0 := (cell_far (p := ⟨gb430, 1, none⟩) x68_5 (.int .i64 t429)).trans hx431_0; replace hx431_1 := (cell_far (p := ⟨gb430, 1, none⟩) x68_5 (.int .i64 t429)).trans hx431_1; replace hx431_2 := (cell_far (p := ⟨gb430, 1, none⟩) x68_5 (.int .i64 t429)).trans hx431_2; replace hx431_3 := (cell_far (p := ⟨gb430, 1, none⟩) x68_5 (.int .i64 t429)).trans hx431_3; replace hx431_4 := (cell_far (p := ⟨gb430, 1, none⟩) x68_5 (.int .i64 t429)).trans hx431_4; clear hn431_0; clear hn431_1; replace p431 := eq_true p431; replace q431 := eq_true q431; have p432 : 0 ≤ (4 : Int) := (by omega); have q432 : 4 < (t425.length : Int) := of_decide_eq_true x68_14; obtain ⟨ad432, e432, hx432_0, hx432_1, hx432_2, hx432_3, hx432_4⟩ := at_T30 (Kd.R_reads' HO427.out).2.2 4 p432 q432; obtain rfl : ad431 = ad432 := (by injection e432); (try simp only [show (4 : Int).toNat = 4 from rfl, Nat.reduceMul, Nat.reduceEqDiff, Go.Addr.add, ↓reduceIte] at hx432_0); (try simp only [show (4 : Int).toNat = 4 from rfl, Nat.reduceMul, Nat.reduceEqDiff, Go.Addr.add, ↓reduceIte] at hx432_1); (try simp only [show (4 : Int).toNat = 4 from rfl, Nat.reduceMul, Nat.reduceEqDiff, Go.Addr.add, ↓reduceIte] at hx432_2); (try simp only [show (4 : Int).toNat = 4 from rfl, Nat.reduceMul, Nat.reduceEqDiff, Go.Addr.add, ↓reduceIte] at hx432_3); (try simp only [show (4 : Int).toNat = 4 from rfl, Nat.reduceMul, Nat.reduceEqDiff, Go.Addr.add, ↓reduceIte] at hx432_4); have qi432 : (4 < t425.length) = True := eq_true (by omega); (try rw [show ((4 : Int)).toNat = 4 from rfl] at hx432_0); (try rw [show 4 * 5 = 20 from rfl] at hx432_0); (try rw [show ((4 : Int)).toNat = 4 from rfl] at hx432_1); (try rw [show 4 * 5 = 20 from rfl] at hx432_1); (try rw [show ((4 : Int)).toNat = 4 from rfl] at hx432_2); (try rw [show 4 * 5 = 20 from rfl] at hx432_2); (try rw [show ((4 : Int)).toNat = 4 from rfl] at hx432_3); (try rw [show 4 * 5 = 20 from rfl] at hx432_3); (try rw [show ((4 : Int)).toNat = 4 from rfl] at hx432_4); (try rw [show 4 * 5 = 20 from rfl] at hx432_4); have hn432_0 : ad431.block ≠ gb430 := Kd.own_blk (Kd.R_ne HO427.out BK430.out (by decide)); have hn432_1 : ad431.block ≠ gb430 := Kd.own_blk (Kd.R_ne HO427.out BK430.out (by decide)); replace hx432_0 := (cell_far (p := ⟨gb430, 0, none⟩) x68_6 (.int .i64 t428)).trans hx432_0; replace hx432_1 := (cell_far (p := ⟨gb430, 0, none⟩) x68_6 (.int .i64 t428)).trans hx432_1; replace hx432_2 := (cell_far (p := ⟨gb430, 0, none⟩) x68_6 (.int .i64 t428)).trans hx432_2; replace hx432_3 := (cell_far (p := ⟨gb430, 0, none⟩) x68_6 (.int .i64 t428)).trans hx432_3; replace hx432_4 := (cell_far (p := ⟨gb430, 0, none⟩) x68_6 (.int .i64 t428)).trans hx432_4; replace hx432_0 := (cell_far (p := ⟨gb430, 1, none⟩) x68_7 (.int .i64 t429)).trans hx432_0; replace hx432_1 := (cell_far (p := ⟨gb430, 1, none⟩) x68_7 (.int .i64 t429)).trans hx432_1; replace hx432_2 := (cell_far (p := ⟨gb430, 1, none⟩) x68_7 (.int .i64 t429)).trans hx432_2; replace hx432_3 := (cell_far (p := ⟨gb430, 1, none⟩) x68_7 (.int .i64 t429)).trans hx432_3; replace hx432_4 := (cell_far (p := ⟨gb430, 1, none⟩) x68_7 (.int .i64 t429)).trans hx432_4; clear hn432_0; clear hn432_1; replace p432 := eq_true p432; replace q432 := eq_true q432; have p433 : 0 ≤ (6 : Int) := (by omega); have q433 : 6 < (t425.length : Int) := of_decide_eq_true x68_14; obtain ⟨ad433, e433, hx433_0, hx433_1, hx433_2, hx433_3, hx433_4⟩ := at_T30 (Kd.R_reads' HO427.out).2.2 6 p433 q433; obtain rfl : ad431 = ad433 := (by injection e433); (try simp only [show (6 : Int).toNat = 6 from rfl, Nat.reduceMul, Nat.reduceEqDiff, Go.Addr.add, ↓reduceIte] at hx433_0); (try simp only [show (6 : Int).toNat = 6 from rfl, Nat.reduceMul, Nat.reduceEqDiff, Go.Addr.add, ↓reduceIte] at hx433_1); (try simp only [show (6 : Int).toNat = 6 from rfl, Nat.reduceMul, Nat.reduceEqDiff, Go.Addr.add, ↓reduceIte] at hx433_2); (try simp only [show (6 : Int).toNat = 6 from rfl, Nat.reduceMul, Nat.reduceEqDiff, Go.Addr.add, ↓reduceIte] at hx433_3); (try simp only [show (6 : Int).toNat = 6 from rfl, Nat.reduceMul, Nat.reduceEqDiff, Go.Addr.add, ↓reduceIte] at hx433_4); have qi433 : (6 < t425.length) = True := eq_true (by omega); (try rw [show ((6 : Int)).toNat = 6 from rfl] at hx433_0); (try rw [show 6 * 5 = 30 from rfl] at hx433_0); (try rw [show ((6 : Int)).toNat = 6 from rfl] at hx433_1); (try rw [show 6 * 5 = 30 from rfl] at hx433_1); (try rw [show ((6 : Int)).toNat = 6 from rfl] at hx433_2); (try rw [show 6 * 5 = 30 from rfl] at hx433_2); (try rw [show ((6 : Int)).toNat = 6 from rfl] at hx433_3); (try rw [show 6 * 5 = 30 from rfl] at hx433_3); (try rw [show ((6 : Int)).toNat = 6 from rfl] at hx433_4); (try rw [show 6 * 5 = 30 from rfl] at hx433_4); have hn433_0 : ad431.block ≠ gb430 := Kd.own_blk (Kd.R_ne HO427.out BK430.out (by decide)); have hn433_1 : ad431.block ≠ gb430 := Kd.own_blk (Kd.R_ne HO427.out BK430.out (by decide)); replace hx433_0 := (cell_far (p := ⟨gb430, 0, none⟩) x68_8 (.int .i64 t428)).trans hx433_0; replace hx433_1 := (cell_far (p := ⟨gb430, 0, none⟩) x68_8 (.int .i64 t428)).trans hx433_1; replace hx433_2 := (cell_far (p := ⟨gb430, 0, none⟩) x68_8 (.int .i64 t428)).trans hx433_2; replace hx433_3 := (cell_far (p := ⟨gb430, 0, none⟩) x68_8 (.int .i64 t428)).trans hx433_3; replace hx433_4 := (cell_far (p := ⟨gb430, 0, none⟩) x68_8 (.int .i64 t428)).trans hx433_4; replace hx433_0 := (cell_far (p := ⟨gb430, 1, none⟩) x68_9 (.int .i64 t429)).trans hx433_0; replace hx433_1 := (cell_far (p := ⟨gb430, 1, none⟩) x68_9 (.int .i64 t429)).trans hx433_1; replace hx433_2 := (cell_far (p := ⟨gb430, 1, none⟩) x68_9 (.int .i64 t429)).trans hx433_2; replace hx433_3 := (cell_far (p := ⟨gb430, 1, none⟩) x68_9 (.int .i64 t429)).trans hx433_3; replace hx433_4 := (cell_far (p := ⟨gb430, 1, none⟩) x68_9 (.int .i64 t429)).trans hx433_4; clear hn433_0; clear hn433_1; replace p433 := eq_true p433; replace q433 := eq_true q433; have p434 : 0 ≤ (6 : Int) := (by omega); have q434 : 6 < (t425.length : Int) := of_decide_eq_true x68_14; obtain ⟨ad434, e434, hx434_0, hx434_1, hx434_2, hx434_3, hx434_4⟩ := at_T30 (Kd.R_reads' HO427.out).2.2 6 p434 q434; obtain rfl : ad431 = ad434 := (by injection e434); (try simp only [show (6 : Int).toNat = 6 from rfl, Nat.reduceMul, Nat.reduceEqDiff, Go.Addr.add, ↓reduceIte] at hx434_0); (try simp only [show (6 : Int).toNat = 6 from rfl, Nat.reduceMul, Nat.reduceEqDiff, Go.Addr.add, ↓reduceIte] at hx434_1); (try simp only [show (6 : Int).toNat = 6 from rfl, Nat.reduceMul, Nat.reduceEqDiff, Go.Addr.add, ↓reduceIte] at hx434_2); (try simp only [show (6 : Int).toNat = 6 from rfl, Nat.reduceMul, Nat.reduceEqDiff, Go.Addr.add, ↓reduceIte] at hx434_3); (try simp only [show (6 : Int).toNat = 6 from rfl, Nat.reduceMul, Nat.reduceEqDiff, Go.Addr.add, ↓reduceIte] at hx434_4); have qi434 : (6 < t425.length) = True := eq_true (by omega); (try rw [show ((6 : Int)).toNat = 6 from rfl] at hx434_0); (try rw [show 6 * 5 = 30 from rfl] at hx434_0); (try rw [show ((6 : Int)).toNat = 6 from rfl] at hx434_1); (try rw [show 6 * 5 = 30 from rfl] at hx434_1); (try rw [show ((6 : Int)).toNat = 6 from rfl] at hx434_2); (try rw [show 6 * 5 = 30 from rfl] at hx434_2); (try rw [show ((6 : Int)).toNat = 6 from rfl] at hx434_3); (try rw [show 6 * 5 = 30 from rfl] at hx434_3); (try rw [show ((6 : Int)).toNat = 6 from rfl] at hx434_4); (try rw [show 6 * 5 = 30 from rfl] at hx434_4); have hn434_0 : ad431.block ≠ gb430 := Kd.own_blk (Kd.R_ne HO427.out BK430.out (by decide)); have hn434_1 : ad431.block ≠ gb430 := Kd.own_blk (Kd.R_ne HO427.out BK430.out (by decide)); replace hx434_0 := (cell_far (p := ⟨gb430, 0, none⟩) x68_10 (.int .i64 t428)).trans hx434_0; replace hx434_1 := (cell_far (p := ⟨gb430, 0, none⟩) x68_10 (.int .i64 t428)).trans hx434_1; replace hx434_2 := (cell_far (p := ⟨gb430, 0, none⟩) x68_10 (.int .i64 t428)).trans hx434_2; replace hx434_3 := (cell_far (p := ⟨gb430, 0, none⟩) x68_10 (.int .i64 t428)).trans hx434_3; replace hx434_4 := (cell_far (p := ⟨gb430, 0, none⟩) x68_10 (.int .i64 t428)).trans hx434_4; replace hx434_0 := (cell_far (p := ⟨gb430, 1, none⟩) x68_11 (.int .i64 t429)).trans hx434_0; replace hx434_1 := (cell_far (p := ⟨gb430, 1, none⟩) x68_11 (.int .i64 t429)).trans hx434_1; replace hx434_2 := (cell_far (p := ⟨gb430, 1, none⟩) x68_11 (.int .i64 t429)).trans hx434_2; replace hx434_3 := (cell_far (p := ⟨gb430, 1, none⟩) x68_11 (.int .i64 t429)).trans hx434_3; replace hx434_4 := (cell_far (p := ⟨gb430, 1, none⟩) x68_11 (.int .i64 t429)).trans hx434_4; clear hn434_0; clear hn434_1; replace p434 := eq_true p434; replace q434 := eq_true q434))
         go_ret
         exact ⟨x68_13, x68_1⟩
        ·rw [if_neg c9] at H
         have c9b0 := beq_eq_false_iff_ne.mpr c9
         have c9b1 := bne_iff_ne.mpr c9
         obtain rfl := Option.some.inj H
         go_enter Tryd.func12, Tryd.ntmps12
         go_wp2_with (first | ((with_reducible refine gate_callee (f := 9) rfl ?_); refine goesL_ (some 4) rfl rfl Tryd.func9 (by kernel_rfl) rfl #[.string (⟨#[108, 101, 116, 32, 120, 61, 49, 46, 46, 50, 32, 35, 32, 121]⟩ : ByteArray)] rfl x68_2 ?_; (with_reducible refine (lex_All.calls (hG := x68_0) (⟨#[108, 101, 116, 32, 120, 61, 49, 46, 46, 50, 32, 35, 32, 121]⟩ : ByteArray) t425 t428 t429 _ A1.out).mono ?_); rintro e w14 ⟨v426, rfl, ho0, hb⟩; refine ⟨_, rfl, ?_⟩; have n0_ := Aside0.mk (Kd.R_lower ho0 (below_size x68_3)); have n1_ := Aside0.mk (below_step x68_3 hb); clear HB; have HO427 := n0_; have HB := n1_; clear n0_ n1_) | ((with_reducible refine gate_dst (N := 2) rfl ?_); refine box_event ?hg (N := 2) ?hd (cs := #[.int .i64 0, .int .i64 0]) (t := 25) ?hr ?_; (case hd => rfl); (case hg => rfl); (case hr => first | (go_simp; done) | (go_simp; rfl)); intro gb430 hg w15 hbox hb; have n0_ := Aside0.mk (Kd.R_below x68_12 hb); have n1_ := Aside0.mk (below_step x68_3 hb); have n2_ := Aside0.mk (hbox); have n3_ := Aside0.mk ((by rw [hg]; exact (below_size x68_3) : w.heap.size ≤ gb430)); have n4_ := Aside0.mk ((by rw [hg]; exact (below_size x68_3) : w.heap.size ≤ gb430)); clear HO427; clear HB; have HO427 := n0_; have HB := n1_; have BK430 := n2_; have GW430 := n3_; have GE430 := n4_; clear n0_ n1_ n2_ n3_ n4_; clear hb hbox hg; have hcz16_0 : w15.cell? ⟨gb430, 0, none⟩ = some (.int .i64 0) := (blk_cell BK430.out 0).trans rfl; have hcz16_1 : w15.cell? ⟨gb430, 1, none⟩ = some (.int .i64 0) := (blk_cell BK430.out 1).trans rfl; have hfz16_0 := blk_frozen BK430.out 0; have hfz16_1 := blk_frozen BK430.out 1; obtain ⟨Ao17, co17, eo17⟩ := Kd.R_slice HO427.out; subst eo17; have p431 : 0 ≤ (1 : Int) := (by omega); have q431 : 1 < (t425.length : Int) := of_decide_eq_true x68_14; obtain ⟨ad431, e431, hx431_0, hx431_1, hx431_2, hx431_3, hx431_4⟩ := at_T30 (Kd.R_reads' HO427.out).2.2 1 p431 q431; cases e431; (try simp only [show (1 : Int).toNat = 1 from rfl, Nat.reduceMul, Nat.reduceEqDiff, Go.Addr.add, ↓reduceIte] at hx431_0); (try simp only [show (1 : Int).toNat = 1 from rfl, Nat.reduceMul, Nat.reduceEqDiff, Go.Addr.add, ↓reduceIte] at hx431_1); (try simp only [show (1 : Int).toNat = 1 from rfl, Nat.reduceMul, Nat.reduceEqDiff, Go.Addr.add, ↓reduceIte] at hx431_2); (try simp only [show (1 : Int).toNat = 1 from rfl, Nat.reduceMul, Nat.reduceEqDiff, Go.Addr.add, ↓reduceIte] at hx431_3); (try simp only [show (1 : Int).toNat = 1 from rfl, Nat.reduceMul, Nat.reduceEqDiff, Go.Addr.add, ↓reduceIte] at hx431_4); have qi431 : (1 < t425.length) = True := eq_true (by omega); (try rw [show ((1 : Int)).toNat = 1 from rfl] at hx431_0); (try rw [show 1 * 5 = 5 from rfl] at hx431_0); (try rw [show ((1 : Int)).toNat = 1 from rfl] at hx431_1); (try rw [show 1 * 5 = 5 from rfl] at hx431_1); (try rw [show ((1 : Int)).toNat = 1 from rfl] at hx431_2); (try rw [show 1 * 5 = 5 from rfl] at hx431_2); (try rw [show ((1 : Int)).toNat = 1 from rfl] at hx431_3); (try rw [show 1 * 5 = 5 from rfl] at hx431_3); (try rw [show ((1 : Int)).toNat = 1 from rfl] at hx431_4); (try rw [show 1 * 5 = 5 from rfl] at hx431_4); have hn431_0 : ad431.block ≠ gb430 := Kd.own_blk (Kd.R_ne HO427.out BK430.out (by decide)); have hn431_1 : ad431.block ≠ gb430 := Kd.own_blk (Kd.R_ne HO427.out BK430.out (by decide)); replace hx431_0 := (cell_far (p := ⟨gb430, 0, none⟩) x68_4 (.int .i64 t428)).trans hx431_0; replace hx431_1 := (cell_far (p := ⟨gb430, 0, none⟩) x68_4 (.int .i64 t428)).trans hx431_1; replace hx431_2 := (cell_far (p := ⟨gb430, 0, none⟩) x68_4 (.int .i64 t428)).trans hx431_2; replace hx431_3 := (cell_far (p := ⟨gb430, 0, none⟩) x68_4 (.int .i64 t428)).trans hx431_3; replace hx431_4 := (cell_far (p := ⟨gb430, 0, none⟩) x68_4 (.int .i64 t428)).trans hx431_4; replace hx431_0 := (cell_far (p := ⟨gb430, 1, none⟩) x68_5 (.int .i64 t429)).trans hx431_0; replace hx431_1 := (cell_far (p := ⟨gb430, 1, none⟩) x68_5 (.int .i64 t429)).trans hx431_1; replace hx431_2 := (cell_far (p := ⟨gb430, 1, none⟩) x68_5 (.int .i64 t429)).trans hx431_2; replace hx431_3 := (cell_far (p := ⟨gb430, 1, none⟩) x68_5 (.int .i64 t429)).trans hx431_3; replace hx431_4 := (cell_far (p := ⟨gb430, 1, none⟩) x68_5 (.int .i64 t429)).trans hx431_4; clear hn431_0; clear hn431_1; replace p431 := eq_true p431; replace q431 := eq_true q431; have p432 : 0 ≤ (4 : Int) := (by omega); have q432 : 4 < (t425.length : Int) := of_decide_eq_true x68_14; obtain ⟨ad432, e432, hx432_0, hx432_1, hx432_2, hx432_3, hx432_4⟩ := at_T30 (Kd.R_reads' HO427.out).2.2 4 p432 q432; obtain rfl : ad431 = ad432 := (by injection e432); (try simp only [show (4 : Int).toNat = 4 from rfl, Nat.reduceMul, Nat.reduceEqDiff, Go.Addr.add, ↓reduceIte] at hx432_0); (try simp only [show (4 : Int).toNat = 4 from rfl, Nat.reduceMul, Nat.reduceEqDiff, Go.Addr.add, ↓reduceIte] at hx432_1); (try simp only [show (4 : Int).toNat = 4 from rfl, Nat.reduceMul, Nat.reduceEqDiff, Go.Addr.add, ↓reduceIte] at hx432_2); (try simp only [show (4 : Int).toNat = 4 from rfl, Nat.reduceMul, Nat.reduceEqDiff, Go.Addr.add, ↓reduceIte] at hx432_3); (try simp only [show (4 : Int).toNat = 4 from rfl, Nat.reduceMul, Nat.reduceEqDiff, Go.Addr.add, ↓reduceIte] at hx432_4); have qi432 : (4 < t425.length) = True := eq_true (by omega); (try rw [show ((4 : Int)).toNat = 4 from rfl] at hx432_0); (try rw [show 4 * 5 = 20 from rfl] at hx432_0); (try rw [show ((4 : Int)).toNat = 4 from rfl] at hx432_1); (try rw [show 4 * 5 = 20 from rfl] at hx432_1); (try rw [show ((4 : Int)).toNat = 4 from rfl] at hx432_2); (try rw [show 4 * 5 = 20 from rfl] at hx432_2); (try rw [show ((4 : Int)).toNat = 4 from rfl] at hx432_3); (try rw [show 4 * 5 = 20 from rfl] at hx432_3); (try rw [show ((4 : Int)).toNat = 4 from rfl] at hx432_4); (try rw [show 4 * 5 = 20 from rfl] at hx432_4); have hn432_0 : ad431.block ≠ gb430 := Kd.own_blk (Kd.R_ne HO427.out BK430.out (by decide)); have hn432_1 : ad431.block ≠ gb430 := Kd.own_blk (Kd.R_ne HO427.out BK430.out (by decide)); replace hx432_0 := (cell_far (p := ⟨gb430, 0, none⟩) x68_6 (.int .i64 t428)).trans hx432_0; replace hx432_1 := (cell_far (p := ⟨gb430, 0, none⟩) x68_6 (.int .i64 t428)).trans hx432_1; replace hx432_2 := (cell_far (p := ⟨gb430, 0, none⟩) x68_6 (.int .i64 t428)).trans hx432_2; replace hx432_3 := (cell_far (p := ⟨gb430, 0, none⟩) x68_6 (.int .i64 t428)).trans hx432_3; replace hx432_4 := (cell_far (p := ⟨gb430, 0, none⟩) x68_6 (.int .i64 t428)).trans hx432_4; replace hx432_0 := (cell_far (p := ⟨gb430, 1, none⟩) x68_7 (.int .i64 t429)).trans hx432_0; replace hx432_1 := (cell_far (p := ⟨gb430, 1, none⟩) x68_7 (.int .i64 t429)).trans hx432_1; replace hx432_2 := (cell_far (p := ⟨gb430, 1, none⟩) x68_7 (.int .i64 t429)).trans hx432_2; replace hx432_3 := (cell_far (p := ⟨gb430, 1, none⟩) x68_7 (.int .i64 t429)).trans hx432_3; replace hx432_4 := (cell_far (p := ⟨gb430, 1, none⟩) x68_7 (.int .i64 t429)).trans hx432_4; clear hn432_0; clear hn432_1; replace p432 := eq_true p432; replace q432 := eq_true q432; have p433 : 0 ≤ (6 : Int) := (by omega); have q433 : 6 < (t425.length : Int) := of_decide_eq_true x68_14; obtain ⟨ad433, e433, hx433_0, hx433_1, hx433_2, hx433_3, hx433_4⟩ := at_T30 (Kd.R_reads' HO427.out).2.2 6 p433 q433; obtain rfl : ad431 = ad433 := (by injection e433); (try simp only [show (6 : Int).toNat = 6 from rfl, Nat.reduceMul, Nat.reduceEqDiff, Go.Addr.add, ↓reduceIte] at hx433_0); (try simp only [show (6 : Int).toNat = 6 from rfl, Nat.reduceMul, Nat.reduceEqDiff, Go.Addr.add, ↓reduceIte] at hx433_1); (try simp only [show (6 : Int).toNat = 6 from rfl, Nat.reduceMul, Nat.reduceEqDiff, Go.Addr.add, ↓reduceIte] at hx433_2); (try simp only [show (6 : Int).toNat = 6 from rfl, Nat.reduceMul, Nat.reduceEqDiff, Go.Addr.add, ↓reduceIte] at hx433_3); (try simp only [show (6 : Int).toNat = 6 from rfl, Nat.reduceMul, Nat.reduceEqDiff, Go.Addr.add, ↓reduceIte] at hx433_4); have qi433 : (6 < t425.length) = True := eq_true (by omega); (try rw [show ((6 : Int)).toNat = 6 from rfl] at hx433_0); (try rw [show 6 * 5 = 30 from rfl] at hx433_0); (try rw [show ((6 : Int)).toNat = 6 from rfl] at hx433_1); (try rw [show 6 * 5 = 30 from rfl] at hx433_1); (try rw [show ((6 : Int)).toNat = 6 from rfl] at hx433_2); (try rw [show 6 * 5 = 30 from rfl] at hx433_2); (try rw [show ((6 : Int)).toNat = 6 from rfl] at hx433_3); (try rw [show 6 * 5 = 30 from rfl] at hx433_3); (try rw [show ((6 : Int)).toNat = 6 from rfl] at hx433_4); (try rw [show 6 * 5 = 30 from rfl] at hx433_4); have hn433_0 : ad431.block ≠ gb430 := Kd.own_blk (Kd.R_ne HO427.out BK430.out (by decide)); have hn433_1 : ad431.block ≠ gb430 := Kd.own_blk (Kd.R_ne HO427.out BK430.out (by decide)); replace hx433_0 := (cell_far (p := ⟨gb430, 0, none⟩) x68_8 (.int .i64 t428)).trans hx433_0; replace hx433_1 := (cell_far (p := ⟨gb430, 0, none⟩) x68_8 (.int .i64 t428)).trans hx433_1; replace hx433_2 := (cell_far (p := ⟨gb430, 0, none⟩) x68_8 (.int .i64 t428)).trans hx433_2; replace hx433_3 := (cell_far (p := ⟨gb430, 0, none⟩) x68_8 (.int .i64 t428)).trans hx433_3; replace hx433_4 := (cell_far (p := ⟨gb430, 0, none⟩) x68_8 (.int .i64 t428)).trans hx433_4; replace hx433_0 := (cell_far (p := ⟨gb430, 1, none⟩) x68_9 (.int .i64 t429)).trans hx433_0; replace hx433_1 := (cell_far (p := ⟨gb430, 1, none⟩) x68_9 (.int .i64 t429)).trans hx433_1; replace hx433_2 := (cell_far (p := ⟨gb430, 1, none⟩) x68_9 (.int .i64 t429)).trans hx433_2; replace hx433_3 := (cell_far (p := ⟨gb430, 1, none⟩) x68_9 (.int .i64 t429)).trans hx433_3; replace hx433_4 := (cell_far (p := ⟨gb430, 1, none⟩) x68_9 (.int .i64 t429)).trans hx433_4; clear hn433_0; clear hn433_1; replace p433 := eq_true p433; replace q433 := eq_true q433; have p434 : 0 ≤ (6 : Int) := (by omega); have q434 : 6 < (t425.length : Int) := of_decide_eq_true x68_14; obtain ⟨ad434, e434, hx434_0, hx434_1, hx434_2, hx434_3, hx434_4⟩ := at_T30 (Kd.R_reads' HO427.out).2.2 6 p434 q434; obtain rfl : ad431 = ad434 := (by injection e434); (try simp only [show (6 : Int).toNat = 6 from rfl, Nat.reduceMul, Nat.reduceEqDiff, Go.Addr.add, ↓reduceIte] at hx434_0); (try simp only [show (6 : Int).toNat = 6 from rfl, Nat.reduceMul, Nat.reduceEqDiff, Go.Addr.add, ↓reduceIte] at hx434_1); (try simp only [show (6 : Int).toNat = 6 from rfl, Nat.reduceMul, Nat.reduceEqDiff, Go.Addr.add, ↓reduceIte] at hx434_2); (try simp only [show (6 : Int).toNat = 6 from rfl, Nat.reduceMul, Nat.reduceEqDiff, Go.Addr.add, ↓reduceIte] at hx434_3); (try simp only [show (6 : Int).toNat = 6 from rfl, Nat.reduceMul, Nat.reduceEqDiff, Go.Addr.add, ↓reduceIte] at hx434_4); have qi434 : (6 < t425.length) = True := eq_true (by omega); (try rw [show ((6 : Int)).toNat = 6 from rfl] at hx434_0); (try rw [show 6 * 5 = 30 from rfl] at hx434_0); (try rw [show ((6 : Int)).toNat = 6 from rfl] at hx434_1); (try rw [show 6 * 5 = 30 from rfl] at hx434_1); (try rw [show ((6 : Int)).toNat = 6 from rfl] at hx434_2); (try rw [show 6 * 5 = 30 from rfl] at hx434_2); (try rw [show ((6 : Int)).toNat = 6 from rfl] at hx434_3); (try rw [show 6 * 5 = 30 from rfl] at hx434_3); (try rw [show ((6 : Int)).toNat = 6 from rfl] at hx434_4); (try rw [show 6 * 5 = 30 from rfl] at hx434_4); have hn434_0 : ad431.block ≠ gb430 := Kd.own_blk (Kd.R_ne HO427.out BK430.out (by decide)); have hn434_1 : ad431.block ≠ gb430 := Kd.own_blk (Kd.R_ne HO427.out BK430.out (by decide)); replace hx434_0 := (cell_far (p := ⟨gb430, 0, none⟩) x68_10 (.int .i64 t428)).trans hx434_0; replace hx434_1 := (cell_far (p := ⟨gb430, 0, none⟩) x68_10 (.int .i64 t428)).trans hx434_1; replace hx434_2 := (cell_far (p := ⟨gb430, 0, none⟩) x68_10 (.int .i64 t428)).trans hx434_2; replace hx434_3 := (cell_far (p := ⟨gb430, 0, none⟩) x68_10 (.int .i64 t428)).trans hx434_3; replace hx434_4 := (cell_far (p := ⟨gb430, 0, none⟩) x68_10 (.int .i64 t428)).trans hx434_4; replace hx434_0 := (cell_far (p := ⟨gb430, 1, none⟩) x68_11 (.int .i64 t429)).trans hx434_0; replace hx434_1 := (cell_far (p := ⟨gb430, 1, none⟩) x68_11 (.int .i64 t429)).trans hx434_1; replace hx434_2 := (cell_far (p := ⟨gb430, 1, none⟩) x68_11 (.int .i64 t429)).trans hx434_2; replace hx434_3 := (cell_far (p := ⟨gb430, 1, none⟩) x68_11 (.int .i64 t429)).trans hx434_3; replace hx434_4 := (cell_far (p := ⟨gb430, 1, none⟩) x68_11 (.int .i64 t429)).trans hx434_4; clear hn434_0; clear hn434_1; replace p434 := eq_true p434; replace q434 := eq_true q434))
         go_ret
         exact ⟨x68_13, x68_1⟩
       ·rw [if_neg c8] at H
        have c8b0 := beq_eq_false_iff_ne.mpr c8
        have c8b1 := bne_iff_ne.mpr c8
        obtain rfl := Option.some.inj H
        go_enter Tryd.func12, Tryd.ntmps12
        go_wp2_with (first | ((with_reducible refine gate_callee (f := 9) rfl ?_); refine goesL_ (some 4) rfl rfl Tryd.func9 (by kernel_rfl) rfl #[.string (⟨#[108, 101, 116, 32, 120, 61, 49, 46, 46, 50, 32, 35, 32, 121]⟩ : ByteArray)] rfl x68_2 ?_; (with_reducible refine (lex_All.calls (hG := x68_0) (⟨#[108, 101, 116, 32, 120, 61, 49, 46, 46, 50, 32, 35, 32, 121]⟩ : ByteArray) t425 t428 t429 _ A1.out).mono ?_); rintro e w18 ⟨v426, rfl, ho0, hb⟩; refine ⟨_, rfl, ?_⟩; have n0_ := Aside0.mk (Kd.R_lower ho0 (below_size x68_3)); have n1_ := Aside0.mk (below_step x68_3 hb); clear HB; have HO427 := n0_; have HB := n1_; clear n0_ n1_) | ((with_reducible refine gate_dst (N := 2) rfl ?_); refine box_event ?hg (N := 2) ?hd (cs := #[.int .i64 0, .int .i64 0]) (t := 25) ?hr ?_; (case hd => rfl); (case hg => rfl); (case hr => first | (go_simp; done) | (go_simp; rfl)); intro gb430 hg w19 hbox hb; have n0_ := Aside0.mk (Kd.R_below x68_12 hb); have n1_ := Aside0.mk (below_step x68_3 hb); have n2_ := Aside0.mk (hbox); have n3_ := Aside0.mk ((by rw [hg]; exact (below_size x68_3) : w.heap.size ≤ gb430)); have n4_ := Aside0.mk ((by rw [hg]; exact (below_size x68_3) : w.heap.size ≤ gb430)); clear HO427; clear HB; have HO427 := n0_; have HB := n1_; have BK430 := n2_; have GW430 := n3_; have GE430 := n4_; clear n0_ n1_ n2_ n3_ n4_; clear hb hbox hg; have hcz20_0 : w19.cell? ⟨gb430, 0, none⟩ = some (.int .i64 0) := (blk_cell BK430.out 0).trans rfl; have hcz20_1 : w19.cell? ⟨gb430, 1, none⟩ = some (.int .i64 0) := (blk_cell BK430.out 1).trans rfl; have hfz20_0 := blk_frozen BK430.out 0; have hfz20_1 := blk_frozen BK430.out 1; obtain ⟨Ao21, co21, eo21⟩ := Kd.R_slice HO427.out; subst eo21; have p431 : 0 ≤ (1 : Int) := (by omega); have q431 : 1 < (t425.length : Int) := of_decide_eq_true x68_14; obtain ⟨ad431, e431, hx431_0, hx431_1, hx431_2, hx431_3, hx431_4⟩ := at_T30 (Kd.R_reads' HO427.out).2.2 1 p431 q431; cases e431; (try simp only [show (1 : Int).toNat = 1 from rfl, Nat.reduceMul, Nat.reduceEqDiff, Go.Addr.add, ↓reduceIte] at hx431_0); (try simp only [show (1 : Int).toNat = 1 from rfl, Nat.reduceMul, Nat.reduceEqDiff, Go.Addr.add, ↓reduceIte] at hx431_1); (try simp only [show (1 : Int).toNat = 1 from rfl, Nat.reduceMul, Nat.reduceEqDiff, Go.Addr.add, ↓reduceIte] at hx431_2); (try simp only [show (1 : Int).toNat = 1 from rfl, Nat.reduceMul, Nat.reduceEqDiff, Go.Addr.add, ↓reduceIte] at hx431_3); (try simp only [show (1 : Int).toNat = 1 from rfl, Nat.reduceMul, Nat.reduceEqDiff, Go.Addr.add, ↓reduceIte] at hx431_4); have qi431 : (1 < t425.length) = True := eq_true (by omega); (try rw [show ((1 : Int)).toNat = 1 from rfl] at hx431_0); (try rw [show 1 * 5 = 5 from rfl] at hx431_0); (try rw [show ((1 : Int)).toNat = 1 from rfl] at hx431_1); (try rw [show 1 * 5 = 5 from rfl] at hx431_1); (try rw [show ((1 : Int)).toNat = 1 from rfl] at hx431_2); (try rw [show 1 * 5 = 5 from rfl] at hx431_2); (try rw [show ((1 : Int)).toNat = 1 from rfl] at hx431_3); (try rw [show 1 * 5 = 5 from rfl] at hx431_3); (try rw [show ((1 : Int)).toNat = 1 from rfl] at hx431_4); (try rw [show 1 * 5 = 5 from rfl] at hx431_4); have hn431_0 : ad431.block ≠ gb430 := Kd.own_blk (Kd.R_ne HO427.out BK430.out (by decide)); have hn431_1 : ad431.block ≠ gb430 := Kd.own_blk (Kd.R_ne HO427.out BK430.out (by decide)); replace hx431_0 := (cell_far (p := ⟨gb430, 0, none⟩) x68_4 (.int .i64 t428)).trans hx431_0; replace hx431_1 := (cell_far (p := ⟨gb430, 0, none⟩) x68_4 (.int .i64 t428)).trans hx431_1; replace hx431_2 := (cell_far (p := ⟨gb430, 0, none⟩) x68_4 (.int .i64 t428)).trans hx431_2; replace hx431_3 := (cell_far (p := ⟨gb430, 0, none⟩) x68_4 (.int .i64 t428)).trans hx431_3; replace hx431_4 := (cell_far (p := ⟨gb430, 0, none⟩) x68_4 (.int .i64 t428)).trans hx431_4; replace hx431_0 := (cell_far (p := ⟨gb430, 1, none⟩) x68_5 (.int .i64 t429)).trans hx431_0; replace hx431_1 := (cell_far (p := ⟨gb430, 1, none⟩) x68_5 (.int .i64 t429)).trans hx431_1; replace hx431_2 := (cell_far (p := ⟨gb430, 1, none⟩) x68_5 (.int .i64 t429)).trans hx431_2; replace hx431_3 := (cell_far (p := ⟨gb430, 1, none⟩) x68_5 (.int .i64 t429)).trans hx431_3; replace hx431_4 := (cell_far (p := ⟨gb430, 1, none⟩) x68_5 (.int .i64 t429)).trans hx431_4; clear hn431_0; clear hn431_1; replace p431 := eq_true p431; replace q431 := eq_true q431; have p432 : 0 ≤ (4 : Int) := (by omega); have q432 : 4 < (t425.length : Int) := of_decide_eq_true x68_14; obtain ⟨ad432, e432, hx432_0, hx432_1, hx432_2, hx432_3, hx432_4⟩ := at_T30 (Kd.R_reads' HO427.out).2.2 4 p432 q432; obtain rfl : ad431 = ad432 := (by injection e432); (try simp only [show (4 : Int).toNat = 4 from rfl, Nat.reduceMul, Nat.reduceEqDiff, Go.Addr.add, ↓reduceIte] at hx432_0); (try simp only [show (4 : Int).toNat = 4 from rfl, Nat.reduceMul, Nat.reduceEqDiff, Go.Addr.add, ↓reduceIte] at hx432_1); (try simp only [show (4 : Int).toNat = 4 from rfl, Nat.reduceMul, Nat.reduceEqDiff, Go.Addr.add, ↓reduceIte] at hx432_2); (try simp only [show (4 : Int).toNat = 4 from rfl, Nat.reduceMul, Nat.reduceEqDiff, Go.Addr.add, ↓reduceIte] at hx432_3); (try simp only [show (4 : Int).toNat = 4 from rfl, Nat.reduceMul, Nat.reduceEqDiff, Go.Addr.add, ↓reduceIte] at hx432_4); have qi432 : (4 < t425.length) = True := eq_true (by omega); (try rw [show ((4 : Int)).toNat = 4 from rfl] at hx432_0); (try rw [show 4 * 5 = 20 from rfl] at hx432_0); (try rw [show ((4 : Int)).toNat = 4 from rfl] at hx432_1); (try rw [show 4 * 5 = 20 from rfl] at hx432_1); (try rw [show ((4 : Int)).toNat = 4 from rfl] at hx432_2); (try rw [show 4 * 5 = 20 from rfl] at hx432_2); (try rw [show ((4 : Int)).toNat = 4 from rfl] at hx432_3); (try rw [show 4 * 5 = 20 from rfl] at hx432_3); (try rw [show ((4 : Int)).toNat = 4 from rfl] at hx432_4); (try rw [show 4 * 5 = 20 from rfl] at hx432_4); have hn432_0 : ad431.block ≠ gb430 := Kd.own_blk (Kd.R_ne HO427.out BK430.out (by decide)); have hn432_1 : ad431.block ≠ gb430 := Kd.own_blk (Kd.R_ne HO427.out BK430.out (by decide)); replace hx432_0 := (cell_far (p := ⟨gb430, 0, none⟩) x68_6 (.int .i64 t428)).trans hx432_0; replace hx432_1 := (cell_far (p := ⟨gb430, 0, none⟩) x68_6 (.int .i64 t428)).trans hx432_1; replace hx432_2 := (cell_far (p := ⟨gb430, 0, none⟩) x68_6 (.int .i64 t428)).trans hx432_2; replace hx432_3 := (cell_far (p := ⟨gb430, 0, none⟩) x68_6 (.int .i64 t428)).trans hx432_3; replace hx432_4 := (cell_far (p := ⟨gb430, 0, none⟩) x68_6 (.int .i64 t428)).trans hx432_4; replace hx432_0 := (cell_far (p := ⟨gb430, 1, none⟩) x68_7 (.int .i64 t429)).trans hx432_0; replace hx432_1 := (cell_far (p := ⟨gb430, 1, none⟩) x68_7 (.int .i64 t429)).trans hx432_1; replace hx432_2 := (cell_far (p := ⟨gb430, 1, none⟩) x68_7 (.int .i64 t429)).trans hx432_2; replace hx432_3 := (cell_far (p := ⟨gb430, 1, none⟩) x68_7 (.int .i64 t429)).trans hx432_3; replace hx432_4 := (cell_far (p := ⟨gb430, 1, none⟩) x68_7 (.int .i64 t429)).trans hx432_4; clear hn432_0; clear hn432_1; replace p432 := eq_true p432; replace q432 := eq_true q432; have p433 : 0 ≤ (6 : Int) := (by omega); have q433 : 6 < (t425.length : Int) := of_decide_eq_true x68_14; obtain ⟨ad433, e433, hx433_0, hx433_1, hx433_2, hx433_3, hx433_4⟩ := at_T30 (Kd.R_reads' HO427.out).2.2 6 p433 q433; obtain rfl : ad431 = ad433 := (by injection e433); (try simp only [show (6 : Int).toNat = 6 from rfl, Nat.reduceMul, Nat.reduceEqDiff, Go.Addr.add, ↓reduceIte] at hx433_0); (try simp only [show (6 : Int).toNat = 6 from rfl, Nat.reduceMul, Nat.reduceEqDiff, Go.Addr.add, ↓reduceIte] at hx433_1); (try simp only [show (6 : Int).toNat = 6 from rfl, Nat.reduceMul, Nat.reduceEqDiff, Go.Addr.add, ↓reduceIte] at hx433_2); (try simp only [show (6 : Int).toNat = 6 from rfl, Nat.reduceMul, Nat.reduceEqDiff, Go.Addr.add, ↓reduceIte] at hx433_3); (try simp only [show (6 : Int).toNat = 6 from rfl, Nat.reduceMul, Nat.reduceEqDiff, Go.Addr.add, ↓reduceIte] at hx433_4); have qi433 : (6 < t425.length) = True := eq_true (by omega); (try rw [show ((6 : Int)).toNat = 6 from rfl] at hx433_0); (try rw [show 6 * 5 = 30 from rfl] at hx433_0); (try rw [show ((6 : Int)).toNat = 6 from rfl] at hx433_1); (try rw [show 6 * 5 = 30 from rfl] at hx433_1); (try rw [show ((6 : Int)).toNat = 6 from rfl] at hx433_2); (try rw [show 6 * 5 = 30 from rfl] at hx433_2); (try rw [show ((6 : Int)).toNat = 6 from rfl] at hx433_3); (try rw [show 6 * 5 = 30 from rfl] at hx433_3); (try rw [show ((6 : Int)).toNat = 6 from rfl] at hx433_4); (try rw [show 6 * 5 = 30 from rfl] at hx433_4); have hn433_0 : ad431.block ≠ gb430 := Kd.own_blk (Kd.R_ne HO427.out BK430.out (by decide)); have hn433_1 : ad431.block ≠ gb430 := Kd.own_blk (Kd.R_ne HO427.out BK430.out (by decide)); replace hx433_0 := (cell_far (p := ⟨gb430, 0, none⟩) x68_8 (.int .i64 t428)).trans hx433_0; replace hx433_1 := (cell_far (p := ⟨gb430, 0, none⟩) x68_8 (.int .i64 t428)).trans hx433_1; replace hx433_2 := (cell_far (p := ⟨gb430, 0, none⟩) x68_8 (.int .i64 t428)).trans hx433_2; replace hx433_3 := (cell_far (p := ⟨gb430, 0, none⟩) x68_8 (.int .i64 t428)).trans hx433_3; replace hx433_4 := (cell_far (p := ⟨gb430, 0, none⟩) x68_8 (.int .i64 t428)).trans hx433_4; replace hx433_0 := (cell_far (p := ⟨gb430, 1, none⟩) x68_9 (.int .i64 t429)).trans hx433_0; replace hx433_1 := (cell_far (p := ⟨gb430, 1, none⟩) x68_9 (.int .i64 t429)).trans hx433_1; replace hx433_2 := (cell_far (p := ⟨gb430, 1, none⟩) x68_9 (.int .i64 t429)).trans hx433_2; replace hx433_3 := (cell_far (p := ⟨gb430, 1, none⟩) x68_9 (.int .i64 t429)).trans hx433_3; replace hx433_4 := (cell_far (p := ⟨gb430, 1, none⟩) x68_9 (.int .i64 t429)).trans hx433_4; clear hn433_0; clear hn433_1; replace p433 := eq_true p433; replace q433 := eq_true q433))
        go_ret
        exact ⟨x68_13, x68_1⟩
      ·rw [if_neg c7] at H
       exact absurd H (by simp)
     ·rw [if_neg c6] at H
      have c6b0 : (((rd_T30 t425 4).f0) == 3 && (((rd_T30 t425 4).f1) == 7 && ((((rd_T30 t425 4).f2).toList) == ([46, 46] : List UInt8) && (((rd_T30 t425 4).f3) == 0 && (((rd_T30 t425 4).f4) == 0))))) = false := by simpa using c6
      (try (have c6b1 : decide (((rd_T30 t425 4).f0) = 3 && (((rd_T30 t425 4).f1) == 7 && ((((rd_T30 t425 4).f2).toList) == ([46, 46] : List UInt8) && (((rd_T30 t425 4).f3) == 0 && (((rd_T30 t425 4).f4) == 0))))) = false := by simpa using c6))
      (try (have c6b2 : (((rd_T30 t425 4).f0) == 3 && (((rd_T30 t425 4).f1) == 7 && ((((rd_T30 t425 4).f2).toList) == ([46, 46] : List UInt8) && (((rd_T30 t425 4).f3) == 0 && (((rd_T30 t425 4).f4) == 0))))) = false := by simpa using c6))
      (try (have c6b3 : ¬ (((rd_T30 t425 4).f0) = 3 && (((rd_T30 t425 4).f1) == 7 && ((((rd_T30 t425 4).f2).toList) == ([46, 46] : List UInt8) && (((rd_T30 t425 4).f3) == 0 && (((rd_T30 t425 4).f4) == 0))))) := by simpa using c6))
      clear c6
      obtain rfl := Option.some.inj H
      go_enter Tryd.func12, Tryd.ntmps12
      go_wp2_with (first | ((with_reducible refine gate_callee (f := 9) rfl ?_); refine goesL_ (some 4) rfl rfl Tryd.func9 (by kernel_rfl) rfl #[.string (⟨#[108, 101, 116, 32, 120, 61, 49, 46, 46, 50, 32, 35, 32, 121]⟩ : ByteArray)] rfl x68_2 ?_; (with_reducible refine (lex_All.calls (hG := x68_0) (⟨#[108, 101, 116, 32, 120, 61, 49, 46, 46, 50, 32, 35, 32, 121]⟩ : ByteArray) t425 t428 t429 _ A1.out).mono ?_); rintro e w22 ⟨v426, rfl, ho0, hb⟩; refine ⟨_, rfl, ?_⟩; have n0_ := Aside0.mk (Kd.R_lower ho0 (below_size x68_3)); have n1_ := Aside0.mk (below_step x68_3 hb); clear HB; have HO427 := n0_; have HB := n1_; clear n0_ n1_) | ((with_reducible refine gate_dst (N := 2) rfl ?_); refine box_event ?hg (N := 2) ?hd (cs := #[.int .i64 0, .int .i64 0]) (t := 25) ?hr ?_; (case hd => rfl); (case hg => rfl); (case hr => first | (go_simp; done) | (go_simp; rfl)); intro gb430 hg w23 hbox hb; have n0_ := Aside0.mk (Kd.R_below x68_12 hb); have n1_ := Aside0.mk (below_step x68_3 hb); have n2_ := Aside0.mk (hbox); have n3_ := Aside0.mk ((by rw [hg]; exact (below_size x68_3) : w.heap.size ≤ gb430)); have n4_ := Aside0.mk ((by rw [hg]; exact (below_size x68_3) : w.heap.size ≤ gb430)); clear HO427; clear HB; have HO427 := n0_; have HB := n1_; have BK430 := n2_; have GW430 := n3_; have GE430 := n4_; clear n0_ n1_ n2_ n3_ n4_; clear hb hbox hg; have hcz24_0 : w23.cell? ⟨gb430, 0, none⟩ = some (.int .i64 0) := (blk_cell BK430.out 0).trans rfl; have hcz24_1 : w23.cell? ⟨gb430, 1, none⟩ = some (.int .i64 0) := (blk_cell BK430.out 1).trans rfl; have hfz24_0 := blk_frozen BK430.out 0; have hfz24_1 := blk_frozen BK430.out 1; obtain ⟨Ao25, co25, eo25⟩ := Kd.R_slice HO427.out; subst eo25; have p431 : 0 ≤ (1 : Int) := (by omega); have q431 : 1 < (t425.length : Int) := of_decide_eq_true x68_14; obtain ⟨ad431, e431, hx431_0, hx431_1, hx431_2, hx431_3, hx431_4⟩ := at_T30 (Kd.R_reads' HO427.out).2.2 1 p431 q431; cases e431; (try simp only [show (1 : Int).toNat = 1 from rfl, Nat.reduceMul, Nat.reduceEqDiff, Go.Addr.add, ↓reduceIte] at hx431_0); (try simp only [show (1 : Int).toNat = 1 from rfl, Nat.reduceMul, Nat.reduceEqDiff, Go.Addr.add, ↓reduceIte] at hx431_1); (try simp only [show (1 : Int).toNat = 1 from rfl, Nat.reduceMul, Nat.reduceEqDiff, Go.Addr.add, ↓reduceIte] at hx431_2); (try simp only [show (1 : Int).toNat = 1 from rfl, Nat.reduceMul, Nat.reduceEqDiff, Go.Addr.add, ↓reduceIte] at hx431_3); (try simp only [show (1 : Int).toNat = 1 from rfl, Nat.reduceMul, Nat.reduceEqDiff, Go.Addr.add, ↓reduceIte] at hx431_4); have qi431 : (1 < t425.length) = True := eq_true (by omega); (try rw [show ((1 : Int)).toNat = 1 from rfl] at hx431_0); (try rw [show 1 * 5 = 5 from rfl] at hx431_0); (try rw [show ((1 : Int)).toNat = 1 from rfl] at hx431_1); (try rw [show 1 * 5 = 5 from rfl] at hx431_1); (try rw [show ((1 : Int)).toNat = 1 from rfl] at hx431_2); (try rw [show 1 * 5 = 5 from rfl] at hx431_2); (try rw [show ((1 : Int)).toNat = 1 from rfl] at hx431_3); (try rw [show 1 * 5 = 5 from rfl] at hx431_3); (try rw [show ((1 : Int)).toNat = 1 from rfl] at hx431_4); (try rw [show 1 * 5 = 5 from rfl] at hx431_4); have hn431_0 : ad431.block ≠ gb430 := Kd.own_blk (Kd.R_ne HO427.out BK430.out (by decide)); have hn431_1 : ad431.block ≠ gb430 := Kd.own_blk (Kd.R_ne HO427.out BK430.out (by decide)); replace hx431_0 := (cell_far (p := ⟨gb430, 0, none⟩) x68_4 (.int .i64 t428)).trans hx431_0; replace hx431_1 := (cell_far (p := ⟨gb430, 0, none⟩) x68_4 (.int .i64 t428)).trans hx431_1; replace hx431_2 := (cell_far (p := ⟨gb430, 0, none⟩) x68_4 (.int .i64 t428)).trans hx431_2; replace hx431_3 := (cell_far (p := ⟨gb430, 0, none⟩) x68_4 (.int .i64 t428)).trans hx431_3; replace hx431_4 := (cell_far (p := ⟨gb430, 0, none⟩) x68_4 (.int .i64 t428)).trans hx431_4; replace hx431_0 := (cell_far (p := ⟨gb430, 1, none⟩) x68_5 (.int .i64 t429)).trans hx431_0; replace hx431_1 := (cell_far (p := ⟨gb430, 1, none⟩) x68_5 (.int .i64 t429)).trans hx431_1; replace hx431_2 := (cell_far (p := ⟨gb430, 1, none⟩) x68_5 (.int .i64 t429)).trans hx431_2; replace hx431_3 := (cell_far (p := ⟨gb430, 1, none⟩) x68_5 (.int .i64 t429)).trans hx431_3; replace hx431_4 := (cell_far (p := ⟨gb430, 1, none⟩) x68_5 (.int .i64 t429)).trans hx431_4; clear hn431_0; clear hn431_1; replace p431 := eq_true p431; replace q431 := eq_true q431; have p432 : 0 ≤ (4 : Int) := (by omega); have q432 : 4 < (t425.length : Int) := of_decide_eq_true x68_14; obtain ⟨ad432, e432, hx432_0, hx432_1, hx432_2, hx432_3, hx432_4⟩ := at_T30 (Kd.R_reads' HO427.out).2.2 4 p432 q432; obtain rfl : ad431 = ad432 := (by injection e432); (try simp only [show (4 : Int).toNat = 4 from rfl, Nat.reduceMul, Nat.reduceEqDiff, Go.Addr.add, ↓reduceIte] at hx432_0); (try simp only [show (4 : Int).toNat = 4 from rfl, Nat.reduceMul, Nat.reduceEqDiff, Go.Addr.add, ↓reduceIte] at hx432_1); (try simp only [show (4 : Int).toNat = 4 from rfl, Nat.reduceMul, Nat.reduceEqDiff, Go.Addr.add, ↓reduceIte] at hx432_2); (try simp only [show (4 : Int).toNat = 4 from rfl, Nat.reduceMul, Nat.reduceEqDiff, Go.Addr.add, ↓reduceIte] at hx432_3); (try simp only [show (4 : Int).toNat = 4 from rfl, Nat.reduceMul, Nat.reduceEqDiff, Go.Addr.add, ↓reduceIte] at hx432_4); have qi432 : (4 < t425.length) = True := eq_true (by omega); (try rw [show ((4 : Int)).toNat = 4 from rfl] at hx432_0); (try rw [show 4 * 5 = 20 from rfl] at hx432_0); (try rw [show ((4 : Int)).toNat = 4 from rfl] at hx432_1); (try rw [show 4 * 5 = 20 from rfl] at hx432_1); (try rw [show ((4 : Int)).toNat = 4 from rfl] at hx432_2); (try rw [show 4 * 5 = 20 from rfl] at hx432_2); (try rw [show ((4 : Int)).toNat = 4 from rfl] at hx432_3); (try rw [show 4 * 5 = 20 from rfl] at hx432_3); (try rw [show ((4 : Int)).toNat = 4 from rfl] at hx432_4); (try rw [show 4 * 5 = 20 from rfl] at hx432_4); have hn432_0 : ad431.block ≠ gb430 := Kd.own_blk (Kd.R_ne HO427.out BK430.out (by decide)); have hn432_1 : ad431.block ≠ gb430 := Kd.own_blk (Kd.R_ne HO427.out BK430.out (by decide)); replace hx432_0 := (cell_far (p := ⟨gb430, 0, none⟩) x68_6 (.int .i64 t428)).trans hx432_0; replace hx432_1 := (cell_far (p := ⟨gb430, 0, none⟩) x68_6 (.int .i64 t428)).trans hx432_1; replace hx432_2 := (cell_far (p := ⟨gb430, 0, none⟩) x68_6 (.int .i64 t428)).trans hx432_2; replace hx432_3 := (cell_far (p := ⟨gb430, 0, none⟩) x68_6 (.int .i64 t428)).trans hx432_3; replace hx432_4 := (cell_far (p := ⟨gb430, 0, none⟩) x68_6 (.int .i64 t428)).trans hx432_4; replace hx432_0 := (cell_far (p := ⟨gb430, 1, none⟩) x68_7 (.int .i64 t429)).trans hx432_0; replace hx432_1 := (cell_far (p := ⟨gb430, 1, none⟩) x68_7 (.int .i64 t429)).trans hx432_1; replace hx432_2 := (cell_far (p := ⟨gb430, 1, none⟩) x68_7 (.int .i64 t429)).trans hx432_2; replace hx432_3 := (cell_far (p := ⟨gb430, 1, none⟩) x68_7 (.int .i64 t429)).trans hx432_3; replace hx432_4 := (cell_far (p := ⟨gb430, 1, none⟩) x68_7 (.int .i64 t429)).trans hx432_4; clear hn432_0; clear hn432_1; replace p432 := eq_true p432; replace q432 := eq_true q432))
      go_ret
      exact ⟨x68_13, x68_1⟩
    ·rw [if_neg c5] at H
     exact absurd H (by simp)
   ·rw [if_neg c4] at H
    have c4b0 : (((rd_T30 t425 1).f0) == 1 && (((rd_T30 t425 1).f1) == 4 && ((((rd_T30 t425 1).f2).toList) == ([120] : List UInt8) && (((rd_T30 t425 1).f3) == 0 && (((rd_T30 t425 1).f4) == 0))))) = false := by simpa using c4
    (try (have c4b1 : decide (((rd_T30 t425 1).f0) = 1 && (((rd_T30 t425 1).f1) == 4 && ((((rd_T30 t425 1).f2).toList) == ([120] : List UInt8) && (((rd_T30 t425 1).f3) == 0 && (((rd_T30 t425 1).f4) == 0))))) = false := by simpa using c4))
    (try (have c4b2 : (((rd_T30 t425 1).f0) == 1 && (((rd_T30 t425 1).f1) == 4 && ((((rd_T30 t425 1).f2).toList) == ([120] : List UInt8) && (((rd_T30 t425 1).f3) == 0 && (((rd_T30 t425 1).f4) == 0))))) = false := by simpa using c4))
    (try (have c4b3 : ¬ (((rd_T30 t425 1).f0) = 1 && (((rd_T30 t425 1).f1) == 4 && ((((rd_T30 t425 1).f2).toList) == ([120] : List UInt8) && (((rd_T30 t425 1).f3) == 0 && (((rd_T30 t425 1).f4) == 0))))) := by simpa using c4))
    clear c4
    obtain rfl := Option.some.inj H
    go_enter Tryd.func12, Tryd.ntmps12
    go_wp2_with (first | ((with_reducible refine gate_callee (f := 9) rfl ?_); refine goesL_ (some 4) rfl rfl Tryd.func9 (by kernel_rfl) rfl #[.string (⟨#[108, 101, 116, 32, 120, 61, 49, 46, 46, 50, 32, 35, 32, 121]⟩ : ByteArray)] rfl x68_2 ?_; (with_reducible refine (lex_All.calls (hG := x68_0) (⟨#[108, 101, 116, 32, 120, 61, 49, 46, 46, 50, 32, 35, 32, 121]⟩ : ByteArray) t425 t428 t429 _ A1.out).mono ?_); rintro e w26 ⟨v426, rfl, ho0, hb⟩; refine ⟨_, rfl, ?_⟩; have n0_ := Aside0.mk (Kd.R_lower ho0 (below_size x68_3)); have n1_ := Aside0.mk (below_step x68_3 hb); clear HB; have HO427 := n0_; have HB := n1_; clear n0_ n1_) | ((with_reducible refine gate_dst (N := 2) rfl ?_); refine box_event ?hg (N := 2) ?hd (cs := #[.int .i64 0, .int .i64 0]) (t := 25) ?hr ?_; (case hd => rfl); (case hg => rfl); (case hr => first | (go_simp; done) | (go_simp; rfl)); intro gb430 hg w27 hbox hb; have n0_ := Aside0.mk (Kd.R_below x68_12 hb); have n1_ := Aside0.mk (below_step x68_3 hb); have n2_ := Aside0.mk (hbox); have n3_ := Aside0.mk ((by rw [hg]; exact (below_size x68_3) : w.heap.size ≤ gb430)); have n4_ := Aside0.mk ((by rw [hg]; exact (below_size x68_3) : w.heap.size ≤ gb430)); clear HO427; clear HB; have HO427 := n0_; have HB := n1_; have BK430 := n2_; have GW430 := n3_; have GE430 := n4_; clear n0_ n1_ n2_ n3_ n4_; clear hb hbox hg; have hcz28_0 : w27.cell? ⟨gb430, 0, none⟩ = some (.int .i64 0) := (blk_cell BK430.out 0).trans rfl; have hcz28_1 : w27.cell? ⟨gb430, 1, none⟩ = some (.int .i64 0) := (blk_cell BK430.out 1).trans rfl; have hfz28_0 := blk_frozen BK430.out 0; have hfz28_1 := blk_frozen BK430.out 1; obtain ⟨Ao29, co29, eo29⟩ := Kd.R_slice HO427.out; subst eo29; have p431 : 0 ≤ (1 : Int) := (by omega); have q431 : 1 < (t425.length : Int) := of_decide_eq_true x68_14; obtain ⟨ad431, e431, hx431_0, hx431_1, hx431_2, hx431_3, hx431_4⟩ := at_T30 (Kd.R_reads' HO427.out).2.2 1 p431 q431; cases e431; (try simp only [show (1 : Int).toNat = 1 from rfl, Nat.reduceMul, Nat.reduceEqDiff, Go.Addr.add, ↓reduceIte] at hx431_0); (try simp only [show (1 : Int).toNat = 1 from rfl, Nat.reduceMul, Nat.reduceEqDiff, Go.Addr.add, ↓reduceIte] at hx431_1); (try simp only [show (1 : Int).toNat = 1 from rfl, Nat.reduceMul, Nat.reduceEqDiff, Go.Addr.add, ↓reduceIte] at hx431_2); (try simp only [show (1 : Int).toNat = 1 from rfl, Nat.reduceMul, Nat.reduceEqDiff, Go.Addr.add, ↓reduceIte] at hx431_3); (try simp only [show (1 : Int).toNat = 1 from rfl, Nat.reduceMul, Nat.reduceEqDiff, Go.Addr.add, ↓reduceIte] at hx431_4); have qi431 : (1 < t425.length) = True := eq_true (by omega); (try rw [show ((1 : Int)).toNat = 1 from rfl] at hx431_0); (try rw [show 1 * 5 = 5 from rfl] at hx431_0); (try rw [show ((1 : Int)).toNat = 1 from rfl] at hx431_1); (try rw [show 1 * 5 = 5 from rfl] at hx431_1); (try rw [show ((1 : Int)).toNat = 1 from rfl] at hx431_2); (try rw [show 1 * 5 = 5 from rfl] at hx431_2); (try rw [show ((1 : Int)).toNat = 1 from rfl] at hx431_3); (try rw [show 1 * 5 = 5 from rfl] at hx431_3); (try rw [show ((1 : Int)).toNat = 1 from rfl] at hx431_4); (try rw [show 1 * 5 = 5 from rfl] at hx431_4); have hn431_0 : ad431.block ≠ gb430 := Kd.own_blk (Kd.R_ne HO427.out BK430.out (by decide)); have hn431_1 : ad431.block ≠ gb430 := Kd.own_blk (Kd.R_ne HO427.out BK430.out (by decide)); replace hx431_0 := (cell_far (p := ⟨gb430, 0, none⟩) x68_4 (.int .i64 t428)).trans hx431_0; replace hx431_1 := (cell_far (p := ⟨gb430, 0, none⟩) x68_4 (.int .i64 t428)).trans hx431_1; replace hx431_2 := (cell_far (p := ⟨gb430, 0, none⟩) x68_4 (.int .i64 t428)).trans hx431_2; replace hx431_3 := (cell_far (p := ⟨gb430, 0, none⟩) x68_4 (.int .i64 t428)).trans hx431_3; replace hx431_4 := (cell_far (p := ⟨gb430, 0, none⟩) x68_4 (.int .i64 t428)).trans hx431_4; replace hx431_0 := (cell_far (p := ⟨gb430, 1, none⟩) x68_5 (.int .i64 t429)).trans hx431_0; replace hx431_1 := (cell_far (p := ⟨gb430, 1, none⟩) x68_5 (.int .i64 t429)).trans hx431_1; replace hx431_2 := (cell_far (p := ⟨gb430, 1, none⟩) x68_5 (.int .i64 t429)).trans hx431_2; replace hx431_3 := (cell_far (p := ⟨gb430, 1, none⟩) x68_5 (.int .i64 t429)).trans hx431_3; replace hx431_4 := (cell_far (p := ⟨gb430, 1, none⟩) x68_5 (.int .i64 t429)).trans hx431_4; clear hn431_0; clear hn431_1; replace p431 := eq_true p431; replace q431 := eq_true q431))
    go_ret
    exact ⟨x68_13, x68_1⟩
  ·rw [if_neg c3] at H
   exact absurd H (by simp)
 ·rw [if_neg c2] at H
  have c2b0 := beq_eq_false_iff_ne.mpr c2
  have c2b1 := bne_iff_ne.mpr c2
  obtain rfl := Option.some.inj H
  go_enter Tryd.func12, Tryd.ntmps12
  go_wp2_with (first | ((with_reducible refine gate_callee (f := 9) rfl ?_); refine goesL_ (some 4) rfl rfl Tryd.func9 (by kernel_rfl) rfl #[.string (⟨#[108, 101, 116, 32, 120, 61, 49, 46, 46, 50, 32, 35, 32, 121]⟩ : ByteArray)] rfl x68_2 ?_; (with_reducible refine (lex_All.calls (hG := x68_0) (⟨#[108, 101, 116, 32, 120, 61, 49, 46, 46, 50, 32, 35, 32, 121]⟩ : ByteArray) t425 t428 t429 _ A1.out).mono ?_); rintro e w30 ⟨v426, rfl, ho0, hb⟩; refine ⟨_, rfl, ?_⟩; have n0_ := Aside0.mk (Kd.R_lower ho0 (below_size x68_3)); have n1_ := Aside0.mk (below_step x68_3 hb); clear HB; have HO427 := n0_; have HB := n1_; clear n0_ n1_) | ((with_reducible refine gate_dst (N := 2) rfl ?_); refine box_event ?hg (N := 2) ?hd (cs := #[.int .i64 0, .int .i64 0]) (t := 25) ?hr ?_; (case hd => rfl); (case hg => rfl); (case hr => first | (go_simp; done) | (go_simp; rfl)); intro gb430 hg w31 hbox hb; have n0_ := Aside0.mk (Kd.R_below x68_12 hb); have n1_ := Aside0.mk (below_step x68_3 hb); have n2_ := Aside0.mk (hbox); have n3_ := Aside0.mk ((by rw [hg]; exact (below_size x68_3) : w.heap.size ≤ gb430)); have n4_ := Aside0.mk ((by rw [hg]; exact (below_size x68_3) : w.heap.size ≤ gb430)); clear HO427; clear HB; have HO427 := n0_; have HB := n1_; have BK430 := n2_; have GW430 := n3_; have GE430 := n4_; clear n0_ n1_ n2_ n3_ n4_; clear hb hbox hg; have hcz32_0 : w31.cell? ⟨gb430, 0, none⟩ = some (.int .i64 0) := (blk_cell BK430.out 0).trans rfl; have hcz32_1 : w31.cell? ⟨gb430, 1, none⟩ = some (.int .i64 0) := (blk_cell BK430.out 1).trans rfl; have hfz32_0 := blk_frozen BK430.out 0; have hfz32_1 := blk_frozen BK430.out 1; obtain ⟨Ao33, co33, eo33⟩ := Kd.R_slice HO427.out; subst eo33))
  go_ret
  exact ⟨x68_13, x68_1⟩
end Go.Proofs.YtjolkombhdibcaaDoor.Print
end
section
namespace Go.Proofs.YtjolkombhdibcaaDoor.Sp
end Go.Proofs.YtjolkombhdibcaaDoor.Sp
end
section
namespace Go.Proofs.YtjolkombhdibcaaDoor.Sp
open Go.RowKit Go.Proofs.YtjolkombhdibcaaDoorW.PrintWords Go.Proofs.YtjolkombhdibcaaDoorW.PrintMore Go.Proofs.YtjolkombhdibcaaDoor.Given Go.Proofs.YtjolkombhdibcaaDoor.Print
set_option linter.unusedVariables false
set_option linter.unusedSimpArgs false
def awL : List UInt8 := [108, 101, 116, 32, 120, 61, 49, 46, 46, 50, 32, 35, 32, 121]
theorem toks_step {l : List UInt8} {p : Nat} (c : UInt8) (r m : List UInt8) (q : Nat) (hl : l = c :: r) (hb : ¬ blank c) (hc : c ≠ 35) (t : T7) (ht : nextT (c :: r) = t) (he : te t = 0) (hq : tn t = q) (hm : (c :: r).drop q = m) :
    toks l p = (tk t p, 0, 0) :: toks m (p + q) := by
  subst hl ht hm
  exact toks_tok hb hc r p q he hq
theorem aw1 : nextT awL = tok 2 [108, 101, 116] 0 0 3 := by decide +kernel
theorem aw2 : nextT [120, 61, 49, 46, 46, 50, 32, 35, 32, 121] = tok 1 [120] 0 0 1 := by decide +kernel
theorem aw3 : nextT [61, 49, 46, 46, 50, 32, 35, 32, 121] = tok 3 [61] 0 0 1 := by decide +kernel
theorem aw4 : nextT [49, 46, 46, 50, 32, 35, 32, 121] = tok 4 [] 1 0 1 := by decide +kernel
theorem aw5 : nextT [46, 46, 50, 32, 35, 32, 121] = tok 3 [46, 46] 0 0 2 := by decide +kernel
theorem aw6 : nextT [50, 32, 35, 32, 121] = tok 4 [] 2 0 1 := by decide +kernel
theorem aw_toks : toks awL 0 = [(tk (tok 2 [108, 101, 116] 0 0 3) 0, 0, 0), (tk (tok 1 [120] 0 0 1) 4, 0, 0), (tk (tok 3 [61] 0 0 1) 5, 0, 0), (tk (tok 4 [] 1 0 1) 6, 0, 0), (tk (tok 3 [46, 46] 0 0 2) 7, 0, 0), (tk (tok 4 [] 2 0 1) 9, 0, 0), endE 14] := by
  rw [toks_step (l := awL) 108 [101, 116, 32, 120, 61, 49, 46, 46, 50, 32, 35, 32, 121] [32, 120, 61, 49, 46, 46, 50, 32, 35, 32, 121] 3 rfl (by decide) (by decide) _ aw1 rfl rfl rfl]
  rw [toks_blank (c := 32) (.inl rfl)]
  rw [toks_step (l := [120, 61, 49, 46, 46, 50, 32, 35, 32, 121]) 120 [61, 49, 46, 46, 50, 32, 35, 32, 121] [61, 49, 46, 46, 50, 32, 35, 32, 121] 1 rfl (by decide) (by decide) _ aw2 rfl rfl rfl]
  rw [toks_step (l := [61, 49, 46, 46, 50, 32, 35, 32, 121]) 61 [49, 46, 46, 50, 32, 35, 32, 121] [49, 46, 46, 50, 32, 35, 32, 121] 1 rfl (by decide) (by decide) _ aw3 rfl rfl rfl]
  rw [toks_step (l := [49, 46, 46, 50, 32, 35, 32, 121]) 49 [46, 46, 50, 32, 35, 32, 121] [46, 46, 50, 32, 35, 32, 121] 1 rfl (by decide) (by decide) _ aw4 rfl rfl rfl]
  rw [toks_step (l := [46, 46, 50, 32, 35, 32, 121]) 46 [46, 50, 32, 35, 32, 121] [50, 32, 35, 32, 121] 2 rfl (by decide) (by decide) _ aw5 rfl rfl rfl]
  rw [toks_step (l := [50, 32, 35, 32, 121]) 50 [32, 35, 32, 121] [32, 35, 32, 121] 1 rfl (by decide) (by decide) _ aw6 rfl rfl rfl]
  rw [toks_blank (c := 32) (.inl rfl), toks_hash]
  have : Given.runN lineB [32, 121] = 2 := by decide
  rw [this, show ([32, 121] : List UInt8).drop 2 = [] from rfl, toks_nil]
theorem aw_all : allT awL = ([tk (tok 2 [108, 101, 116] 0 0 3) 0, tk (tok 1 [120] 0 0 1) 4, tk (tok 3 [61] 0 0 1) 5, tk (tok 4 [] 1 0 1) 6, tk (tok 3 [46, 46] 0 0 2) 7, tk (tok 4 [] 2 0 1) 9, (endE 14).1], 0, 0) := by
  unfold allT seqT
  rw [if_neg (by decide), aw_toks]
  rfl
theorem awake_f : casketlaw11_awake.f = some true := by
  unfold casketlaw11_awake.f
  have h : lex_All.f (⟨#[108, 101, 116, 32, 120, 61, 49, 46, 46, 50, 32, 35, 32, 121]⟩ : ByteArray) = some (allT awL) := all_f awL (by decide)
  rw [h, aw_all]
  decide +kernel
end Go.Proofs.YtjolkombhdibcaaDoor.Sp
end
section
namespace Go.Proofs.YtjolkombhdibcaaDoor.Two
open Go.RowKit Go.Shelf Go.Proofs.YtjolkombhdibcaaDoorW.PrintWords Go.Proofs.YtjolkombhdibcaaDoorW.PrintMore Go.Proofs.YtjolkombhdibcaaDoorW.PrintLast Go.Proofs.YtjolkombhdibcaaDoor.Given Go.Proofs.YtjolkombhdibcaaDoor.Print Go.Proofs.YtjolkombhdibcaaDoor.Sp
set_option linter.unusedVariables false
set_option linter.unusedSimpArgs false
theorem all_reads (S : ByteArray) (hS : S.size ≤ 1000000) {xs : List S30} {cd ad : Int} (hx : allT S.data.toList = (xs, cd, ad)) (w : World) (hG : Glob w) :
    Calls Tryd.prog 9 #[.string S] w fun e W' => ∃ A c, e = .returned (.tuple #[.slice A xs.length c, .agg #[.int .i64 cd, .int .i64 ad]]) ∧ xs.length ≤ c ∧ Kd.C k30 W' A xs.length xs ∧ Below w.heap.size w W' := by
  refine (all_any S hS w hG).mono ?_
  rintro e w' ⟨v, rfl, hr, hb⟩
  rw [hx] at hr ⊢
  obtain ⟨A, c, rfl, hl, hC⟩ := Kd.R_reads (row_flat hr)
  exact ⟨A, c, rfl, hl, hC, hb⟩
theorem awake_calls (w : World) (hG : Glob w) : Calls Tryd.prog 12 #[] w fun e w' => e = .returned (.bool true) ∧ Below w.heap.size w w' := casketlaw11_awake.calls true w hG awake_f
end Go.Proofs.YtjolkombhdibcaaDoor.Two
end
section
namespace Go.Proofs.YtjolkombhdibcaaDoor.Two
end Go.Proofs.YtjolkombhdibcaaDoor.Two
end
section
namespace Go.Proofs.YtjolkombhdibcaaDoor.Sp
open Go.RowKit Go.Proofs.YtjolkombhdibcaaDoorW.PrintWords Go.Proofs.YtjolkombhdibcaaDoorW.PrintMore Go.Proofs.YtjolkombhdibcaaDoor.Given Go.Proofs.YtjolkombhdibcaaDoor.Print
set_option linter.unusedVariables false
set_option linter.unusedSimpArgs false
theorem tw_take {p : UInt8 → Bool} : ∀ (l : List UInt8) (k : Nat), (l.takeWhile p).length ≤ k → (l.take k).takeWhile p = l.takeWhile p
  | [], k, _ => by rw [List.take_nil]
  | c :: l, k, h => by
    by_cases hc : p c = true
    · rw [List.takeWhile_cons, if_pos hc] at h
      cases k with
      | zero => simp at h
      | succ k => rw [List.take_succ_cons, List.takeWhile_cons, List.takeWhile_cons, if_pos hc, if_pos hc, tw_take l k (by simpa using h)]
    · cases k with
      | zero => rw [List.take_zero, List.takeWhile_cons, if_neg hc]; rfl
      | succ k => rw [List.take_succ_cons, List.takeWhile_cons, List.takeWhile_cons, if_neg hc, if_neg hc]
theorem run_take' {p : UInt8 → Bool} (l : List UInt8) (k : Nat) (h : Given.runN p l ≤ k) : Given.runN p (l.take k) = Given.runN p l := by
  unfold Given.runN at h ⊢
  rw [tw_take l k h]
theorem expN_take (l : List UInt8) (k : Nat) (h : expN l ≤ k) : expN (l.take k) = expN l := by
  match l, h with
  | [], _ => rw [List.take_nil]
  | c :: r, h =>
    by_cases h1 : c = 43
    · subst h1
      have h' : 1 + Given.runN isDig r ≤ k := h
      cases k with
      | zero => omega
      | succ k =>
        rw [List.take_succ_cons]
        show 1 + Given.runN isDig (r.take k) = 1 + Given.runN isDig r
        rw [run_take' r k (by omega)]
    · by_cases h2 : c = 45
      · subst h2
        have h' : 1 + Given.runN isDig r ≤ k := h
        cases k with
        | zero => omega
        | succ k =>
          rw [List.take_succ_cons]
          show 1 + Given.runN isDig (r.take k) = 1 + Given.runN isDig r
          rw [run_take' r k (by omega)]
      · have e : ∀ s : List UInt8, expN (c :: s) = Given.runN isDig (c :: s) := by
          intro s
          unfold expN
          split
          · rename_i h; exact absurd (List.cons.inj h).1 h1
          · rename_i h; exact absurd (List.cons.inj h).1 h2
          · rfl
        rw [e] at h ⊢
        cases k with
        | zero =>
          rw [List.take_zero]
          have : Given.runN isDig (c :: r) = 0 := by omega
          rw [this]; rfl
        | succ k => rw [List.take_succ_cons, e, ← List.take_succ_cons, run_take' _ _ h]
theorem tailN_take (l : List UInt8) (k : Nat) (h : tailN l ≤ k) : tailN (l.take k) = tailN l := by
  match l, h with
  | [], _ => rw [List.take_nil]
  | c :: r, h =>
    by_cases h1 : c = 112
    · subst h1
      have h' : 1 + expN r ≤ k := h
      cases k with
      | zero => omega
      | succ k =>
        rw [List.take_succ_cons]
        show 1 + expN (r.take k) = 1 + expN r
        rw [expN_take r k (by omega)]
    · have e : ∀ s : List UInt8, tailN (c :: s) = 0 := by
        intro s
        unfold tailN
        split
        · rename_i h'; exact absurd (List.cons.inj h').1 h1
        · rfl
      cases k with
      | zero => rw [List.take_zero, e]; rfl
      | succ k => rw [List.take_succ_cons, e, e]
theorem dblN_take (l : List UInt8) (k : Nat) (h : dblN l ≤ k) : dblN (l.take k) = dblN l := by
  unfold dblN at h ⊢
  have h1 : Given.runN dotB ((l.take k).drop 2) = Given.runN dotB (l.drop 2) := by rw [List.drop_take, run_take' _ _ (by omega)]
  rw [h1, List.drop_take, tailN_take _ _ (by omega)]
theorem qS_take : ∀ (m : Nat) (r b : List UInt8) (n j : Nat), r.length ≤ m → te (qS r b n) = 0 → tn (qS r b n) ≤ ((n + j : Nat) : Int) → qS (r.take j) b n = qS r b n := by
  intro m
  induction m with
  | zero =>
    intro r b n j hm h _
    have : r = [] := List.eq_nil_of_length_eq_zero (by omega)
    subst this
    rw [List.take_nil]
  | succ m ih =>
    intro r b n j hm h hj
    obtain ⟨q, q1, q2, q3⟩ := qS_n _ r b n (Nat.le_refl _) h
    cases r with
    | nil => rw [List.take_nil]
    | cons c r =>
      have hm' : r.length ≤ m := by simpa using hm
      obtain ⟨i, rfl⟩ : ∃ i, j = i + 1 := ⟨j - 1, by omega⟩
      rw [List.take_succ_cons, qS_cons, qS_cons]
      rw [qS_cons] at h hj
      by_cases h34 : c = 34
      · rw [if_pos h34, if_pos h34]
      · rw [if_neg h34] at h hj ⊢
        rw [if_neg h34]
        by_cases h92 : c = 92
        · rw [if_pos h92] at h hj ⊢
          rw [if_pos h92]
          cases r with
          | nil => cases h
          | cons d r1 =>
            dsimp only at h hj
            have hm1 : r1.length ≤ m := by simp at hm'; omega
            have key : ∀ b', te (qS r1 b' (n + 2)) = 0 → tn (qS r1 b' (n + 2)) ≤ ((n + (i + 1) : Nat) : Int) → ∃ u, i = u + 1 ∧ qS (r1.take u) b' (n + 2) = qS r1 b' (n + 2) := by
              intro b' g1 g2
              obtain ⟨q', a1, a2, a3⟩ := qS_n _ r1 b' (n + 2) (Nat.le_refl _) g1
              refine ⟨i - 1, by omega, ih r1 b' (n + 2) (i - 1) hm1 g1 ?_⟩
              rw [show n + 2 + (i - 1) = n + (i + 1) by omega]
              exact g2
            by_cases hd : d = 92 ∨ d = 34
            · rw [if_pos hd] at h hj
              obtain ⟨u, rfl, e⟩ := key _ h hj
              rw [List.take_succ_cons]
              dsimp only
              rw [if_pos hd, if_pos hd, e]
            · rw [if_neg hd] at h hj
              by_cases h110 : d = 110
              · rw [if_pos h110] at h hj
                obtain ⟨u, rfl, e⟩ := key _ h hj
                rw [List.take_succ_cons]
                dsimp only
                rw [if_neg hd, if_neg hd, if_pos h110, if_pos h110, e]
              · rw [if_neg h110] at h hj
                by_cases h120 : d = 120
                · rw [if_pos h120] at h hj
                  match r1, hm1, h, hj with
                  | [], _, h, _ => cases h
                  | [a], _, h, _ => cases h
                  | a :: a2 :: r2, hm1, h, hj =>
                    dsimp only at h hj
                    cases ha : hexV a with
                    | none => rw [ha] at h; cases h
                    | some x =>
                      cases ha2 : hexV a2 with
                      | none => rw [ha, ha2] at h; cases h
                      | some y =>
                        rw [ha, ha2] at h hj
                        dsimp only at h hj
                        obtain ⟨q', a1, a2', a3⟩ := qS_n _ r2 _ (n + 4) (Nat.le_refl _) h
                        obtain ⟨u, rfl⟩ : ∃ u, i = u + 3 := ⟨i - 3, by omega⟩
                        have e := ih r2 _ (n + 4) u (by simp at hm1; omega) h (by rw [show n + 4 + u = n + (u + 3 + 1) by omega]; exact hj)
                        rw [show u + 3 = u + 1 + 1 + 1 from rfl, List.take_succ_cons, List.take_succ_cons, List.take_succ_cons]
                        dsimp only
                        rw [if_neg hd, if_neg hd, if_neg h110, if_neg h110, if_pos h120, if_pos h120, ha, ha2]
                        exact e
                · rw [if_neg h120] at h; cases h
        · rw [if_neg h92] at h hj ⊢
          rw [if_neg h92]
          by_cases hc : 32 ≤ c.toNat ∧ c.toNat ≤ 126
          · rw [if_pos hc] at h hj ⊢
            rw [if_pos hc]
            exact ih r _ _ i hm' h (by rw [show n + 1 + i = n + (i + 1) by omega]; exact hj)
          · rw [if_neg hc] at h; cases h
theorem pre_take {l q : List UInt8} (k : Nat) (h : q.length ≤ k ∨ Lib.hasPrefix l q = false) : Lib.hasPrefix (l.take k) q = Lib.hasPrefix l q := by
  unfold Lib.hasPrefix at h ⊢
  rw [Bool.eq_iff_iff, List.isPrefixOf_iff_prefix, List.isPrefixOf_iff_prefix]
  constructor
  · exact fun g => g.trans (List.take_prefix k l)
  · intro g
    rcases h with h | h
    · exact List.prefix_take_iff.2 ⟨g, h⟩
    · rw [List.isPrefixOf_iff_prefix.2 g] at h; cases h
theorem markT_take (c : UInt8) (r : List UInt8) (k : Nat) (h : te (markT (c :: r)) = 0) (hk : tn (markT (c :: r)) ≤ ((k + 1 : Nat) : Int)) : markT (c :: r.take k) = markT (c :: r) := by
  rw [markT_eq] at h hk
  rw [markT_eq, markT_eq]
  by_cases h2 : 2 ≤ (c :: r).length ∧ (c :: r).take 2 ∈ marks2
  · rw [if_pos h2] at hk
    have hk' : (2 : Int) ≤ ((k + 1 : Nat) : Int) := hk
    have e : (c :: r.take k).take 2 = (c :: r).take 2 := by
      rw [← List.take_succ_cons, List.take_take, Nat.min_eq_left (by omega)]
    rw [e, if_pos h2, if_pos ⟨by have := h2.1; simp at this ⊢; omega, h2.2⟩]
  · rw [if_neg h2]
    have n1 : ¬ (2 ≤ (c :: r.take k).length ∧ (c :: r.take k).take 2 ∈ marks2) := by
      rintro ⟨g1, g2⟩
      apply h2
      rw [← List.take_succ_cons] at g1 g2
      rw [List.length_take] at g1
      rw [List.take_take, Nat.min_eq_left (by omega)] at g2
      exact ⟨by omega, g2⟩
    rw [if_neg n1]
theorem next_take (c : UInt8) (r : List UInt8) (k : Nat) (h : te (nextT (c :: r)) = 0) (hk : tn (nextT (c :: r)) ≤ (k : Int)) : nextT ((c :: r).take k) = nextT (c :: r) := by
  obtain ⟨q, q1, q2, q3⟩ := next_n c r h
  obtain ⟨k, rfl⟩ : ∃ i, k = i + 1 := ⟨k - 1, by omega⟩
  have et : (c :: r).take (k + 1) = c :: r.take k := List.take_succ_cons
  rw [nextT_cons] at h hk
  rw [et, nextT_cons, nextT_cons, ← et]
  by_cases h1 : lowB c = true
  · rw [if_pos h1] at h hk ⊢
    rw [if_pos h1]
    have hl : ((c :: r).takeWhile nameB).length ≤ k + 1 := by
      have : tn (nameT ((c :: r).takeWhile nameB)) = (((c :: r).takeWhile nameB).length : Int) := by
        unfold nameT at h ⊢
        by_cases a1 : 31 < ((c :: r).takeWhile nameB).length
        · rw [if_pos a1] at h; cases h
        · rw [if_neg a1]
          by_cases a2 : (c :: r).takeWhile nameB = [105, 110, 102] ∨ (c :: r).takeWhile nameB = [110, 97, 110]
          · rw [if_pos a2]; rfl
          · rw [if_neg a2]
            by_cases a3 : (c :: r).takeWhile nameB ∈ wordsL
            · rw [if_pos a3]; rfl
            · rw [if_neg a3]; rfl
      omega
    rw [tw_take _ _ hl]
  · rw [if_neg h1] at h hk ⊢
    rw [if_neg h1]
    by_cases h2 : Lib.hasPrefix (c :: r) [48, 120] = true
    · rw [if_pos h2] at h hk
      rw [if_pos h2]
      have hl2 := pre_len h2
      have hd := dblN_le (c :: r) hl2
      have hl : dblN (c :: r) ≤ k + 1 := by
        have : tn (floatTok ((c :: r).take (dblN (c :: r)))) = (((c :: r).take (dblN (c :: r))).length : Int) := by
          unfold floatTok at h ⊢
          by_cases a1 : (pfS ((c :: r).take (dblN (c :: r)))).2 = 0
          · rw [if_pos a1]; rfl
          · rw [if_neg a1] at h; cases h
        rw [List.length_take] at this
        omega
      have h2' : Lib.hasPrefix ((c :: r).take (k + 1)) [48, 120] = true := by
        rw [pre_take (k + 1) (.inl (by have : 2 ≤ dblN (c :: r) := by unfold dblN; omega
                                       show 2 ≤ k + 1; omega)), h2]
      rw [if_pos h2', dblN_take _ _ hl, List.take_take, Nat.min_eq_left hl]
    · have h2' : ¬ Lib.hasPrefix ((c :: r).take (k + 1)) [48, 120] = true := by
        rw [pre_take (k + 1) (.inr (by simpa using h2))]; exact h2
      rw [if_neg h2] at h hk
      rw [if_neg h2, if_neg h2']
      by_cases h3 : isDig c = true
      · rw [if_pos h3] at h hk ⊢
        rw [if_pos h3]
        have hl : ((c :: r).takeWhile isDig).length ≤ k + 1 := by
          have : tn (wholeTok ((c :: r).takeWhile isDig)) = (((c :: r).takeWhile isDig).length : Int) := by
            unfold wholeTok at h ⊢
            by_cases a1 : (parseIntT ((c :: r).takeWhile isDig)).2 = 0
            · rw [if_pos a1]; rfl
            · rw [if_neg a1] at h; cases h
          omega
        rw [tw_take _ _ hl]
      · rw [if_neg h3] at h hk ⊢
        rw [if_neg h3]
        by_cases h4 : c = 34
        · rw [if_pos h4] at h hk ⊢
          rw [if_pos h4]
          exact qS_take _ r [] 1 k (Nat.le_refl _) h (by rw [show 1 + k = k + 1 by omega]; exact hk)
        · rw [if_neg h4] at h hk ⊢
          rw [if_neg h4, et]
          exact markT_take c r k h hk
theorem next_cut (c : UInt8) (r m : List UInt8) (k : Nat) (h : te (nextT (c :: r)) = 0) (hk : tn (nextT (c :: r)) ≤ (k : Int)) : nextT ((c :: r).take k ++ 10 :: m) = nextT (c :: r) := by
  have e := next_take c r k h hk
  obtain ⟨q, q1, q2, q3⟩ := next_n c r h
  obtain ⟨k, rfl⟩ : ∃ i, k = i + 1 := ⟨k - 1, by omega⟩
  rw [List.take_succ_cons] at e ⊢
  rw [next_app, e]
end Go.Proofs.YtjolkombhdibcaaDoor.Sp
end
section
namespace Go.Proofs.YtjolkombhdibcaaDoor.Sp
open Go.RowKit Go.Proofs.YtjolkombhdibcaaDoorW.PrintWords Go.Proofs.YtjolkombhdibcaaDoorW.PrintMore Go.Proofs.YtjolkombhdibcaaDoor.Given Go.Proofs.YtjolkombhdibcaaDoor.Print
set_option linter.unusedVariables false
set_option linter.unusedSimpArgs false
theorem mem_tw {p : UInt8 → Bool} : ∀ (l : List UInt8) (c : UInt8), c ∈ l.takeWhile p → p c = true
  | [], c, h => by simp at h
  | d :: l, c, h => by
    rw [List.takeWhile_cons] at h
    by_cases hd : p d = true
    · rw [if_pos hd] at h
      rcases List.mem_cons.1 h with rfl | h
      · exact hd
      · exact mem_tw l c h
    · rw [if_neg hd] at h; simp at h
theorem run_next {p : UInt8 → Bool} : ∀ (l : List UInt8) (d : UInt8) (y : List UInt8), l.drop (Given.runN p l) = d :: y → p d = false
  | [], d, y, h => by simp at h
  | c :: l, d, y, h => by
    unfold Given.runN at h
    rw [List.takeWhile_cons] at h
    by_cases hc : p c = true
    · rw [if_pos hc, List.length_cons, List.drop_succ_cons] at h
      exact run_next l d y h
    · rw [if_neg hc, List.length_nil, List.drop_zero] at h
      rw [← (List.cons.inj h).1]
      simpa using hc
def atTok (s : List UInt8) : Prop := s = [] ∨ ∃ c r, s = c :: r ∧ ¬ blank c ∧ c ≠ 35
def softX (x : List UInt8) : Prop := x = [] ∨ ∃ y, x = 10 :: y
theorem run_soft (rem x : List UInt8) (h : ∀ c ∈ rem, lineB c = true) (hx : softX x) : Given.runN lineB (rem ++ x) = rem.length := by
  unfold Given.runN
  induction rem with
  | nil =>
    rcases hx with rfl | ⟨y, rfl⟩
    · rfl
    · rw [List.nil_append, List.takeWhile_cons, show lineB 10 = false by decide]; rfl
  | cons c rem ih =>
    rw [List.cons_append, List.takeWhile_cons, h c (by simp), if_pos rfl, List.length_cons, List.length_cons, ih (fun d hd => h d (by simp [hd]))]
theorem skip_split : ∀ (k : Nat) (l : List UInt8), l.length ≤ k → ∃ b s, l = b ++ s ∧ atTok s ∧ (∀ x q, softX x → toks (b ++ x) q = toks x (q + b.length)) ∧ (s ≠ [] → ∀ x q, toks (b ++ x) q = toks x (q + b.length)) := by
  intro k
  induction k with
  | zero =>
    intro l h
    have : l = [] := List.eq_nil_of_length_eq_zero (by omega)
    subst this
    exact ⟨[], [], rfl, .inl rfl, fun x q _ => rfl, fun _ x q => rfl⟩
  | succ k ih =>
    intro l h
    cases l with
    | nil => exact ⟨[], [], rfl, .inl rfl, fun x q _ => rfl, fun _ x q => rfl⟩
    | cons c r =>
      have hr : r.length ≤ k := by simpa using h
      by_cases hb : blank c
      · obtain ⟨b, s, e, h1, h2, h3⟩ := ih r hr
        refine ⟨c :: b, s, by rw [e]; rfl, h1, fun x q hx => ?_, fun hs x q => ?_⟩
        · rw [List.cons_append, toks_blank hb, h2 x _ hx, List.length_cons]
          congr 1; omega
        · rw [List.cons_append, toks_blank hb, h3 hs, List.length_cons]
          congr 1; omega
      · by_cases h35 : c = 35
        · subst h35
          have hle := runN_le lineB r
          obtain ⟨b, s, e, h1, h2, h3⟩ := ih (r.drop (Given.runN lineB r)) (by rw [List.length_drop]; omega)
          have hrem : ∀ c ∈ r.take (Given.runN lineB r), lineB c = true := by
            rw [take_run]
            intro c hc
            exact mem_tw r c hc
          have hlen : (r.take (Given.runN lineB r)).length = Given.runN lineB r := by rw [List.length_take]; omega
          have hsoft : softX (r.drop (Given.runN lineB r)) := by
            cases hd : r.drop (Given.runN lineB r) with
            | nil => exact .inl rfl
            | cons d y =>
              refine .inr ⟨y, ?_⟩
              have hn : lineB d = false := run_next r d y hd
              have : d = 10 := by
                unfold lineB at hn
                simpa using hn
              rw [this]
          have go : ∀ x q, softX (b ++ x) → toks (35 :: r.take (Given.runN lineB r) ++ b ++ x) q = toks (b ++ x) (q + (1 + Given.runN lineB r)) := by
            intro x q hx
            rw [List.append_assoc, List.cons_append, toks_hash, run_soft _ _ hrem hx, hlen, List.drop_append_of_le_length (by omega), List.drop_of_length_le (by omega), List.nil_append]
          have hbx : ∀ x, softX x ∨ s ≠ [] → softX (b ++ x) := by
            intro x hx
            cases b with
            | nil =>
              rcases hx with hx | hs
              · exact hx
              · rcases h1 with h1 | ⟨c, r', h1, h4, h5⟩
                · exact absurd h1 hs
                · rw [e, List.nil_append, h1] at hsoft
                  rcases hsoft with g | ⟨y, g⟩
                  · cases g
                  · exact absurd (.inr (.inr (List.cons.inj g).1)) h4
            | cons d b =>
              rw [e] at hsoft
              rcases hsoft with g | ⟨y, g⟩
              · cases g
              · exact .inr ⟨b ++ x, by rw [(List.cons.inj g).1]; rfl⟩
          refine ⟨35 :: r.take (Given.runN lineB r) ++ b, s, ?_, h1, fun x q hx => ?_, fun hs x q => ?_⟩
          · rw [List.append_assoc, ← e, List.cons_append, List.take_append_drop]
          · rw [go x q (hbx x (.inl hx)), h2 x _ hx, List.length_append, List.length_cons, hlen]
            congr 1; omega
          · rw [go x q (hbx x (.inr hs)), h3 hs, List.length_append, List.length_cons, hlen]
            congr 1; omega
        · exact ⟨[], c :: r, rfl, .inr ⟨c, r, rfl, hb, h35⟩, fun x q _ => rfl, fun _ x q => rfl⟩
end Go.Proofs.YtjolkombhdibcaaDoor.Sp
namespace Go.Proofs.YtjolkombhdibcaaDoor.Sp
open Go.RowKit Go.Proofs.YtjolkombhdibcaaDoorW.PrintWords Go.Proofs.YtjolkombhdibcaaDoorW.PrintMore Go.Proofs.YtjolkombhdibcaaDoor.Given Go.Proofs.YtjolkombhdibcaaDoor.Print
def gapOK (g : List UInt8) : Prop := (g = [] ∨ ∃ z, g = 10 :: z) ∧ ∀ x q, toks (g ++ x) q = toks x (q + g.length)
def wideL (L : List UInt8) (ins : Nat → List UInt8) : Nat → List Nat → List UInt8
  | i, a :: b :: r => (L.take b).drop a ++ ins i ++ wideL L ins (i + 1) (b :: r)
  | _, _ => []
def posL (E : List E) : List Nat := E.map fun e => e.1.f1.toNat
def sameE (a q : Nat) (e f : E) : Prop := f.1.f0 = e.1.f0 ∧ f.1.f2 = e.1.f2 ∧ f.1.f3 = e.1.f3 ∧ f.1.f4 = e.1.f4 ∧ f.2.1 = 0 ∧ e.1.f1 + (q : Int) ≤ f.1.f1 + (a : Int)
inductive All2 {α β : Type} (R : α → β → Prop) : List α → List β → Prop
  | nil : All2 R [] []
  | cons {a b l m} : R a b → All2 R l m → All2 R (a :: l) (b :: m)
theorem All2.imp {α β : Type} {R S : α → β → Prop} (h : ∀ a b, R a b → S a b) {l : List α} {m : List β} (g : All2 R l m) : All2 S l m := by
  induction g with
  | nil => exact .nil
  | cons a _ ih => exact .cons (h _ _ a) ih
theorem posL_head : ∀ (k : Nat) (s : List UInt8) (p : Nat), s.length ≤ k → okE (toks s p) → atTok s → ∃ r, posL (toks s p) = p :: r := by
  intro k s p _ ho hs
  rcases hs with rfl | ⟨c, r, rfl, hb, h35⟩
  · rw [toks_nil]; exact ⟨[], rfl⟩
  · by_cases ht : te (nextT (c :: r)) = 0
    · obtain ⟨n, n1, n2, n3⟩ := next_n c r ht
      rw [toks_tok hb h35 r p n ht n1]
      exact ⟨_, rfl⟩
    · rw [toks_bad hb h35 r p ht] at ho
      exact absurd (ho _ (List.mem_singleton.2 rfl)) ht
theorem wide_main (L : List UInt8) (ins : Nat → List UInt8) (hg : ∀ i, gapOK (ins i)) : ∀ (k i a : Nat) (S : List UInt8), S.length ≤ k → S = L.drop a → a ≤ L.length → atTok S → okE (toks S a) →
    (S = [] → wideL L ins i (posL (toks S a)) = []) ∧
    (wideL L ins i (posL (toks S a)) = S ∨ ∃ m z, wideL L ins i (posL (toks S a)) = S.take m ++ 10 :: z) ∧
    ∀ q, All2 (sameE a q) (toks S a) (toks (wideL L ins i (posL (toks S a))) q) := by
  intro k
  induction k with
  | zero =>
    intro i a S hk hS ha ht ho
    have : S = [] := List.eq_nil_of_length_eq_zero (by omega)
    subst this
    rw [toks_nil]
    refine ⟨fun _ => rfl, .inl rfl, fun q => ?_⟩
    show All2 (sameE a q) [endE a] (toks [] q)
    rw [toks_nil]
    exact .cons ⟨rfl, rfl, rfl, rfl, rfl, by show (a : Int) + q ≤ (q : Int) + a; omega⟩ .nil
  | succ k ih =>
    intro i a S hk hS ha ht ho
    rcases ht with rfl | ⟨c, r, rfl, hb, h35⟩
    · rw [toks_nil]
      refine ⟨fun _ => rfl, .inl rfl, fun q => ?_⟩
      show All2 (sameE a q) [endE a] (toks [] q)
      rw [toks_nil]
      exact .cons ⟨rfl, rfl, rfl, rfl, rfl, by show (a : Int) + q ≤ (q : Int) + a; omega⟩ .nil
    · by_cases hte : te (nextT (c :: r)) = 0
      · obtain ⟨n, n1, n2, n3⟩ := next_n c r hte
        rw [toks_tok hb h35 r a n hte n1] at ho ⊢
        obtain ⟨b, s, e, h1, h2, h3⟩ := skip_split _ ((c :: r).drop n) (Nat.le_refl _)
        have hlen : (c :: r).length = n + b.length + s.length := by
          have := congrArg List.length e
          rw [List.length_drop, List.length_append] at this
          omega
        have hsk : toks ((c :: r).drop n) (a + n) = toks s (a + n + b.length) := by
          rw [e]
          by_cases hs : s = []
          · subst hs; exact h2 [] _ (.inl rfl)
          · exact h3 hs _ _
        rw [hsk] at ho ⊢
        have ho' : okE (toks s (a + n + b.length)) := fun x hx => ho x (by simp [hx])
        have hLl : L.length = a + (n + b.length + s.length) := by
          have := congrArg List.length hS
          rw [List.length_drop] at this
          omega
        have hs2 : s = L.drop (a + n + b.length) := by
          have : L.drop (a + n + b.length) = ((c :: r).drop n).drop b.length := by
            rw [hS, List.drop_drop, List.drop_drop, Nat.add_assoc]
          rw [this, e, List.drop_append_of_le_length (Nat.le_refl _), List.drop_length, List.nil_append]
        obtain ⟨i1, i2, i3⟩ := ih (i + 1) (a + n + b.length) s (by omega) hs2 (by omega) h1 ho'
        obtain ⟨ps, hps⟩ := posL_head _ s (a + n + b.length) (Nat.le_refl _) ho' h1
        have hpos : posL ((tk (nextT (c :: r)) a, (0 : Int), (0 : Int)) :: toks s (a + n + b.length)) = a :: posL (toks s (a + n + b.length)) := rfl
        generalize hW : wideL L ins (i + 1) (posL (toks s (a + n + b.length))) = W' at i1 i2 i3
        have hpc : (L.take (a + n + b.length)).drop a = (c :: r).take (n + b.length) := by
          rw [hS, List.drop_take, show a + n + b.length - a = n + b.length by omega]
        have hw : wideL L ins i (posL ((tk (nextT (c :: r)) a, (0 : Int), (0 : Int)) :: toks s (a + n + b.length))) = (c :: r).take (n + b.length) ++ (ins i ++ W') := by
          rw [hpos, hps, wideL, ← hps, hW, hpc, List.append_assoc]
        rw [hw]
        have hcs : c :: r = (c :: r).take n ++ (b ++ s) := by rw [← e, List.take_append_drop]
        have hTl : ((c :: r).take n).length = n := by rw [List.length_take]; omega
        have htk : ∀ m, (c :: r).take (n + b.length + m) = (c :: r).take n ++ (b ++ s.take m) := by
          intro m
          generalize hT : (c :: r).take n = T at hcs hTl
          rw [hcs, ← List.append_assoc, ← List.append_assoc, List.take_append, List.take_of_length_le (by rw [List.length_append]; omega), List.length_append, hTl, show n + b.length + m - (n + b.length) = m by omega]
        have ht0 : (c :: r).take (n + b.length) = (c :: r).take n ++ b := by
          have := htk 0
          rw [Nat.add_zero, List.take_zero, List.append_nil] at this
          exact this
        have hW2 : (c :: r).take (n + b.length) ++ (ins i ++ W') = c :: r ∨ ∃ m z, n ≤ m ∧ (c :: r).take (n + b.length) ++ (ins i ++ W') = (c :: r).take m ++ 10 :: z := by
          rcases (hg i).1 with g | ⟨z, g⟩
          · rw [g, List.nil_append]
            rcases i2 with g2 | ⟨m, z, g2⟩
            · left
              rw [g2, ht0, List.append_assoc, ← hcs]
            · right
              refine ⟨n + b.length + m, z, by omega, ?_⟩
              rw [g2, ht0, htk]
              simp only [List.append_assoc]
          · right
            exact ⟨n + b.length, z ++ W', by omega, by rw [g]; rfl⟩
        refine ⟨fun h => absurd h (by simp), ?_, ?_⟩
        · rcases hW2 with g | ⟨m, z, _, g⟩
          · exact .inl g
          · exact .inr ⟨m, z, g⟩
        · intro q
          have hnx : nextT ((c :: r).take (n + b.length) ++ (ins i ++ W')) = nextT (c :: r) := by
            rcases hW2 with g | ⟨m, z, g0, g⟩
            · rw [g]
            · rw [g]
              exact next_cut c r z m hte (by rw [n1]; omega)
          rw [ht0, List.append_assoc] at hnx ⊢
          have hx : toks (b ++ (ins i ++ W')) (q + n) = toks (ins i ++ W') (q + n + b.length) := by
            by_cases hs : s = []
            · refine h2 _ _ ?_
              rw [i1 hs, List.append_nil]
              exact (hg i).1
            · exact h3 hs _ _
          have hdr : ((c :: r).take n ++ (b ++ (ins i ++ W'))).drop n = b ++ (ins i ++ W') := List.drop_left' hTl
          obtain ⟨n', rfl⟩ : ∃ n', n = n' + 1 := ⟨n - 1, by omega⟩
          rw [List.take_succ_cons, List.cons_append] at hnx hdr ⊢
          rw [toks_tok hb h35 _ q (n' + 1) (by rw [hnx]; exact hte) (by rw [hnx]; exact n1), hdr, hx, (hg i).2, hnx]
          refine .cons ⟨rfl, rfl, rfl, rfl, rfl, by show (a : Int) + q ≤ (q : Int) + a; omega⟩ ?_
          refine (i3 (q + (n' + 1) + b.length + (ins i).length)).imp ?_
          rintro x y ⟨y1, y2, y3, y4, y5, y6⟩
          exact ⟨y1, y2, y3, y4, y5, by omega⟩
      · rw [toks_bad hb h35 r a hte] at ho
        exact absurd (ho _ (List.mem_singleton.2 rfl)) hte
end Go.Proofs.YtjolkombhdibcaaDoor.Sp
end
section
namespace Go.Proofs.YtjolkombhdibcaaDoor.Blk
open Go.RowKit Go.Shelf Go.Proofs.YtjolkombhdibcaaDoorW.PrintWords Go.Proofs.YtjolkombhdibcaaDoorW.PrintMore Go.Proofs.YtjolkombhdibcaaDoorW.PrintLast Go.Proofs.YtjolkombhdibcaaDoor.Given Go.Proofs.YtjolkombhdibcaaDoor.Print Go.Proofs.YtjolkombhdibcaaDoor.Sp Go.Proofs.YtjolkombhdibcaaDoor.Two
attribute [local go_sem high] eqA25 eqA30
set_option linter.unusedVariables false
set_option linter.unusedSimpArgs false
set_option maxRecDepth 100000 in
set_option maxHeartbeats 4000000 in
theorem blk_long (a : ByteArray) (B : Option Addr) (n c : Nat) (w : World) (h : 5000 < a.size) (ha : a.size ≤ 140737488351232) :
    Calls Tryd.prog 5 #[.string a, .slice B n c] w fun e w' => e = .returned (.bool true) ∧ Below w.heap.size w w' := by
  have e1 : decide (5000 < (a.size : Int)) = true := decide_eq_true (by omega)
  have e2 : decide (5000 < a.size) = true := decide_eq_true h
  clear h
  go_enter Tryd.func5, Tryd.ntmps5
  go_wp2
  repeat (go_quiet (fail); try go_wp2)
  go_ret
  exact ⟨rfl, Below.refl _ _⟩
set_option maxRecDepth 100000 in
set_option maxHeartbeats 8000000 in
theorem blk_bad (a : ByteArray) (B : Option Addr) (n c : Nat) (w : World) (hG : Glob w) (ha : a.size ≤ 5000) {cx fx : Int}
    (hx : allT a.data.toList = ([], cx, fx)) (hcx : cx ≠ 0) :
    Calls Tryd.prog 5 #[.string a, .slice B n c] w fun e w' => e = .returned (.bool true) ∧ Below w.heap.size w w' := by
  have hu25 := Tryd.underlying25
  have hu30 := Tryd.underlying30
  have C1 := Aside0.mk (fun W (hW : Below w.heap.size w W) => all_reads a (by omega) hx W (hG.at_ hW))
  have C4 := Aside0.mk (fun W (hW : Below w.heap.size w W) => awake_calls W (hG.at_ hW))
  have e1 : decide (5000 < (a.size : Int)) = false := decide_eq_false (by omega)
  have e2 : decide (5000 < a.size) = false := decide_eq_false (by omega)
  have g1 : (cx == 0) = false := beq_eq_false_iff_ne.2 hcx
  have g2 : (cx != 0) = true := bne_iff_ne.2 hcx
  clear hcx hx hG
  go_enter Tryd.func5, Tryd.ntmps5
  go_wp2_with (first | (go_at_call 9; (with_reducible refine (C1.out _ (Below.refl _ _)).mono ?_); rintro e w1 ⟨A1, c1, rfl, hl1, hC1, hb1⟩; have HB1 := Aside0.mk (below_alloc hb1 (.cells #[.int .i64 cx, .int .i64 fx] 25)); clear hb1 hC1 C1) | (go_at_call 12; (with_reducible refine (C4.out _ HB1.out).mono ?_); rintro e w4 ⟨rfl, hb4⟩; have HB4 := Aside0.mk (below_step HB1.out hb4); clear hb4 C4))
  repeat (go_quiet (fail); try go_wp2_with (go_at_call 12; (with_reducible refine (C4.out _ HB1.out).mono ?_); rintro e w4 ⟨rfl, hb4⟩; have HB4 := Aside0.mk (below_step HB1.out hb4); clear hb4 C4))
  go_ret
  exact ⟨rfl, HB4.out⟩
end Go.Proofs.YtjolkombhdibcaaDoor.Blk
end
section
namespace Go.Proofs.YtjolkombhdibcaaDoor.Two
open Go.RowKit Go.Shelf Go.Proofs.YtjolkombhdibcaaDoorW.PrintWords Go.Proofs.YtjolkombhdibcaaDoorW.PrintMore Go.Proofs.YtjolkombhdibcaaDoorW.PrintLast Go.Proofs.YtjolkombhdibcaaDoor.Given Go.Proofs.YtjolkombhdibcaaDoor.Print Go.Proofs.YtjolkombhdibcaaDoor.Sp
attribute [local go_sem high] eqA25 eqA30
set_option linter.unusedVariables false
set_option linter.unusedSimpArgs false
theorem incN (i : Nat) (h : i ≤ 100000) : wrap64 ((i : Int) + 1) = ((i + 1 : Nat) : Int) := wrapP (a := i) (b := 1) (by omega)
theorem incL (i n : Nat) (h : i ≤ 100000) (c : i + 1 < n) : decide (wrap64 ((i : Int) + 1) < (n : Int)) = true := decide_eq_true (by rw [incN i h]; omega)
theorem incR (i n : Nat) (h : i ≤ 100000) (c : ¬ i + 1 < n) : decide (wrap64 ((i : Int) + 1) < (n : Int)) = false := decide_eq_false (by rw [incN i h]; omega)
end Go.Proofs.YtjolkombhdibcaaDoor.Two
end
section
namespace Go.Proofs.YtjolkombhdibcaaDoor.Blk
open Go.RowKit Go.Shelf Go.Proofs.YtjolkombhdibcaaDoorW.PrintWords Go.Proofs.YtjolkombhdibcaaDoorW.PrintMore Go.Proofs.YtjolkombhdibcaaDoorW.PrintLast Go.Proofs.YtjolkombhdibcaaDoor.Given Go.Proofs.YtjolkombhdibcaaDoor.Print Go.Proofs.YtjolkombhdibcaaDoor.Sp Go.Proofs.YtjolkombhdibcaaDoor.Two
attribute [local go_sem high] eqA25 eqA30
set_option linter.unusedVariables false
set_option linter.unusedSimpArgs false
theorem alloc_size (w : World) (o : Obj) : (w.alloc o).heap.size = w.heap.size + 1 := by
  show (w.heap.push o).size = _
  exact Array.size_push ..
theorem cat_toList (acc a : ByteArray) (u v : Nat) : (acc ++ a.extract u v).data.toList = acc.data.toList ++ (a.data.toList.take v).drop u := by
  rw [ByteArray.data_append, Array.toList_append, ByteArray.data_extract, Array.toList_extract, List.extract_eq_drop_take', List.drop_take]
theorem cat_gap (acc a : ByteArray) (u v : Nat) (g : List UInt8) : (acc ++ a.extract u v ++ ⟨g.toArray⟩).data.toList = acc.data.toList ++ ((a.data.toList.take v).drop u ++ g) := by
  rw [ByteArray.data_append, Array.toList_append, cat_toList, List.append_assoc]
def gapD (d : Int) : List UInt8 := if (d == 1) = true then [10] else if (d == 2) = true then [10, 35, 32, 34, 123, 32, 114, 101, 109, 97, 114, 107, 10, 9] else if (d == 3) = true then [10, 32, 32] else []
theorem at_int {w : World} {B : Option Addr} {n : Nat} {bl : List Int} (h : (Kd.int .i64).C w B n bl) (i : Nat) (hi : i < n) :
    ∃ ad, B = some ad ∧ w.cell? (ad.add i) = some (.int .i64 (rd bl (i : Int))) := by
  obtain ⟨ad, c, e, hl, hK, hc⟩ := Kd.C_get h 0 (i : Int) (Int.natCast_nonneg _) (by omega)
  have e2 : c = [.int .i64 (rd bl (i : Int))] := hK
  have := hc 0 _ (by rw [e2]; rfl)
  have e3 : (Kd.int .i64 : Kd Int).sz = 1 := rfl
  rw [e3, Int.toNat_natCast, Nat.mul_one, Nat.add_zero] at this
  exact ⟨ad, e, this⟩
set_option maxRecDepth 100000 in
set_option maxHeartbeats 8000000 in
theorem blk_good (a : ByteArray) (B : Option Addr) (n c : Nat) (bl : List Int) (w : World) (hG : Glob w) (ha : a.size ≤ 5000) (hBC : (Kd.int .i64).C w B n bl) {xs : List S30} {fx : Int}
    (hx : allT a.data.toList = (xs, 0, fx)) (h1 : 1 ≤ xs.length) (hn : xs.length ≤ 5001) (hlast : (rd_T30 xs ((xs.length - 1 : Nat) : Int)).f0 = 7)
    (ins wd : Nat → List UInt8) (hz : ∀ i, ¬ i < n → ins i = []) (hy : ∀ i : Nat, i < n → ins i = gapD (bits BinOp.and IntKind.i64 (rd bl (i : Int)) 3)) (hstep : ∀ i : Nat, i + 1 < xs.length → ∃ u v : Nat, (rd_T30 xs (i : Int)).f1 = (u : Int) ∧ (rd_T30 xs ((i + 1 : Nat) : Int)).f1 = (v : Int) ∧ u < v ∧ v ≤ a.size ∧ wd i = (a.data.toList.take v).drop u ++ (ins i ++ wd (i + 1)))
    (hend : wd (xs.length - 1) = []) (hwl : (wd 0).length ≤ 100000) {ys : List S30} {cy fy : Int} (hy0 : allT (wd 0) = (ys, cy, fy))
    (hor : (65536 < (wd 0).length ∧ cy ≠ 0) ∨ (cy = 0 ∧ ys.length = xs.length ∧ ∀ j : Nat, j < xs.length → (rd_T30 ys (j : Int)).f0 = (rd_T30 xs (j : Int)).f0 ∧ (rd_T30 ys (j : Int)).f2 = (rd_T30 xs (j : Int)).f2 ∧ (rd_T30 ys (j : Int)).f3 = (rd_T30 xs (j : Int)).f3 ∧ (rd_T30 ys (j : Int)).f4 = (rd_T30 xs (j : Int)).f4 ∧
      ∃ p q r : Nat, (rd_T30 xs (j : Int)).f1 = (p : Int) ∧ (rd_T30 ys (j : Int)).f1 = (q : Int) ∧ (rd_T30 xs ((0 : Nat) : Int)).f1 = (r : Int) ∧ r ≤ p ∧ p ≤ q + r ∧ p ≤ 5000 ∧ q ≤ 100000)) :
    Calls Tryd.prog 5 #[.string a, .slice B n c] w fun e w' => e = .returned (.bool true) ∧ Below w.heap.size w w' := by
  have hu25 := Tryd.underlying25
  have hu30 := Tryd.underlying30
  have C1 := Aside0.mk (fun W (hW : Below w.heap.size w W) => all_reads a (by omega) hx W (hG.at_ hW))
  have C4 := Aside0.mk (fun W (hW : Below w.heap.size w W) => awake_calls W (hG.at_ hW))
  have e1 : decide (5000 < (a.size : Int)) = false := decide_eq_false (by omega)
  have e2 : decide (5000 < a.size) = false := decide_eq_false (by omega)
  have HBC := Aside0.mk hBC
  have HL := Aside0.mk hlast
  have d1 : ((xs.length : Int) == 0) = false := beq_eq_false_iff_ne.2 (by omega)
  have d2 : (xs.length == 0) = false := beq_eq_false_iff_ne.2 (by omega)
  have p1 : (0 : Int) ≤ (xs.length : Int) - 1 := by omega
  have p2 : (xs.length : Int) - 1 < (xs.length : Int) := by omega
  have HS := Aside0.mk hstep
  have HZ := Aside0.mk hz
  have HY := Aside0.mk hy
  have HE := Aside0.mk hend
  have HW := Aside0.mk hwl
  have HG := Aside0.mk hG
  have HY0 := Aside0.mk hy0
  have HOR := Aside0.mk hor
  clear hx hG hy0 hor hBC hlast hstep hend hwl hz hy
  go_enter Tryd.func5, Tryd.ntmps5
  go_wp2_with (first | (go_at_call 9; (with_reducible refine (C1.out _ (Below.refl _ _)).mono ?_); rintro e w1 ⟨A1, c1, rfl, hl1, hC1, hb1⟩; have HX1 := Aside0.mk (blk_new w1 (.cells #[.int .i64 0, .int .i64 fx] 25)); have hx0 := (blk_cell HX1.out 0).trans (show (#[Value.int .i64 0, Value.int .i64 fx] : Array Value)[0]? = some (.int .i64 0) from rfl); have HC1 := Aside0.mk (Kd.C_alloc hC1 (.cells #[.int .i64 0, .int .i64 fx] 25)); have HB1 := Aside0.mk (below_alloc hb1 (.cells #[.int .i64 0, .int .i64 fx] 25)); obtain ⟨ad1, e3, hv0, hv1, hv2, hv3, hv4⟩ := at_T30 HC1.out ((xs.length - 1 : Nat) : Int) (Int.natCast_nonneg _) (by omega); cases e3; rw [HL.out] at hv0; simp only [Int.toNat_natCast] at hv0 hv1 hv2 hv3 hv4; clear hb1 hC1 C1))
  repeat (go_quiet (fail); try go_wp2)
  clear hx0 hv0 hv1 hv2 hv3 hv4 HX1 p1 p2 d1 d2
  go_loopg [7, 8] xs.length (fun kq v7 v8 w' => ∃ (i : Nat) (acc : ByteArray), v7 = .string acc ∧ v8 = .int .i64 (i : Int) ∧ Aside0 (i + kq = xs.length) ∧ Aside0 (1 ≤ kq) ∧ Aside0 (acc.data.toList ++ wd i = wd 0) ∧ Aside0 (k30.C w' (some ad1) xs.length xs) ∧ Aside0 (Below w.heap.size w w'))
  case atStart => exact ⟨0, _, rfl, rfl, ⟨Nat.zero_add _⟩, ⟨h1⟩, ⟨rfl⟩, HC1, HB1⟩
  case round =>
    clear HC1 HB1
    obtain ⟨i, acc, rfl, rfl, HI, HK, HQ, HC1, HB1⟩ := hrel
    cases gk with
    | zero => exact absurd HK.out (by omega)
    | succ k4 =>
      have hi : i ≤ 100000 := by have := HI.out; omega
      by_cases c0 : i + 1 < xs.length
      · obtain ⟨u, v, hu, hv, huv, hva, hwd⟩ := HS.out i c0
        have p1 : 0 ≤ (i : Int) := Int.natCast_nonneg i
        have p2 : (i : Int) < (xs.length : Int) := by omega
        have p3 : (0 : Int) ≤ ((i + 1 : Nat) : Int) := Int.natCast_nonneg _
        have p4 : ((i + 1 : Nat) : Int) < (xs.length : Int) := by omega
        obtain ⟨ad5, e5, hz0, hz1, hz2, hz3, hz4⟩ := at_T30 HC1.out ((i + 1 : Nat) : Int) p3 p4
        cases e5
        obtain ⟨ad3, e3, hv0, hv1, hv2, hv3, hv4⟩ := at_T30 HC1.out (i : Int) p1 p2
        cases e3
        rw [hu] at hv1
        rw [hv] at hz1
        simp only [Int.toNat_natCast] at hz0 hz1 hz2 hz3 hz4 hv0 hv1 hv2 hv3 hv4
        have q1 := incL i xs.length hi c0
        have o1 : decide ((v : Int) ≤ (u : Int)) = false := decide_eq_false (by omega)
        have o2 : decide (v ≤ u) = false := decide_eq_false (by omega)
        have o3 : decide ((a.size : Int) < (v : Int)) = false := decide_eq_false (by omega)
        have o4 : decide (a.size < v) = false := decide_eq_false (by omega)
        have hac : acc.size ≤ 100000 := by
          have e : acc.data.toList.length ≤ (wd 0).length := by rw [← HQ.out, List.length_append]; omega
          exact Nat.le_trans e HW.out
        have hex : (a.extract u v).size ≤ 5000 := by rw [ByteArray.size_extract]; omega
        have hcat : acc.size + (a.extract u v).size ≤ 9223372036854775807 := by omega
        have hcat' : ¬ (9223372036854775807 < acc.size + (a.extract u v).size) := by omega
        have HD := Aside0.mk hwd
        clear hu hv hwd p3
        by_cases hb : i < n
        · obtain ⟨adb, eb, hbc⟩ := at_int (Kd.C_below HBC.out HB1.out) i hb
          cases eb
          have r1 : (i : Int) < (n : Int) := by omega
          replace r1 := eq_true r1
          replace p1 := eq_true p1
          have HR := Aside0.mk r1
          by_cases g1 : (bits BinOp.and IntKind.i64 (rd bl (i : Int)) 3 == 1) = true
          · have hgd : gapD (bits BinOp.and IntKind.i64 (rd bl (i : Int)) 3) = [10] := by unfold gapD; rw [if_pos g1]
            go_wp2
            repeat (go_quiet (fail); try go_wp2)
            go_roundg k4
            case measure => omega
            case rel =>
              refine ⟨i + 1, acc ++ a.extract u v ++ (⟨#[10]⟩ : ByteArray), rfl, rfl, ⟨by have := HI.out; omega⟩, ⟨by have := HI.out; omega⟩, ⟨?_⟩, ⟨Kd.C_drewN HC1.out _⟩, ⟨pw_below_drewN HB1.out _⟩⟩
              rw [← HQ.out, HD.out, HY.out i hb, show (acc ++ a.extract u v ++ (⟨#[10]⟩ : ByteArray)).data.toList = acc.data.toList ++ ((a.data.toList.take v).drop u ++ [10]) from cat_gap acc a u v [10], hgd, List.append_assoc, List.append_assoc]
          · have hg1 := g1
            replace g1 := Bool.eq_false_iff.2 g1
            by_cases g2 : (bits BinOp.and IntKind.i64 (rd bl (i : Int)) 3 == 2) = true
            · have hgd : gapD (bits BinOp.and IntKind.i64 (rd bl (i : Int)) 3) = [10, 35, 32, 34, 123, 32, 114, 101, 109, 97, 114, 107, 10, 9] := by unfold gapD; rw [if_neg hg1, if_pos g2]
              go_wp2
              repeat (go_quiet (fail); try go_wp2)
              go_roundg k4
              case measure => omega
              case rel =>
                refine ⟨i + 1, acc ++ a.extract u v ++ (⟨#[10, 35, 32, 34, 123, 32, 114, 101, 109, 97, 114, 107, 10, 9]⟩ : ByteArray), rfl, rfl, ⟨by have := HI.out; omega⟩, ⟨by have := HI.out; omega⟩, ⟨?_⟩, ⟨Kd.C_drewN HC1.out _⟩, ⟨pw_below_drewN HB1.out _⟩⟩
                rw [← HQ.out, HD.out, HY.out i hb, show (acc ++ a.extract u v ++ (⟨#[10, 35, 32, 34, 123, 32, 114, 101, 109, 97, 114, 107, 10, 9]⟩ : ByteArray)).data.toList = acc.data.toList ++ ((a.data.toList.take v).drop u ++ [10, 35, 32, 34, 123, 32, 114, 101, 109, 97, 114, 107, 10, 9]) from cat_gap acc a u v [10, 35, 32, 34, 123, 32, 114, 101, 109, 97, 114, 107, 10, 9], hgd, List.append_assoc, List.append_assoc]
            · have hg2 := g2
              replace g2 := Bool.eq_false_iff.2 g2
              by_cases g3 : (bits BinOp.and IntKind.i64 (rd bl (i : Int)) 3 == 3) = true
              · have hgd : gapD (bits BinOp.and IntKind.i64 (rd bl (i : Int)) 3) = [10, 32, 32] := by unfold gapD; rw [if_neg hg1, if_neg hg2, if_pos g3]
                go_wp2
                repeat (go_quiet (fail); try go_wp2)
                go_roundg k4
                case measure => omega
                case rel =>
                  refine ⟨i + 1, acc ++ a.extract u v ++ (⟨#[10, 32, 32]⟩ : ByteArray), rfl, rfl, ⟨by have := HI.out; omega⟩, ⟨by have := HI.out; omega⟩, ⟨?_⟩, ⟨Kd.C_drewN HC1.out _⟩, ⟨pw_below_drewN HB1.out _⟩⟩
                  rw [← HQ.out, HD.out, HY.out i hb, show (acc ++ a.extract u v ++ (⟨#[10, 32, 32]⟩ : ByteArray)).data.toList = acc.data.toList ++ ((a.data.toList.take v).drop u ++ [10, 32, 32]) from cat_gap acc a u v [10, 32, 32], hgd, List.append_assoc, List.append_assoc]
              · have hgd : gapD (bits BinOp.and IntKind.i64 (rd bl (i : Int)) 3) = [] := by unfold gapD; rw [if_neg hg1, if_neg hg2, if_neg g3]
                replace g3 := Bool.eq_false_iff.2 g3
                go_wp2
                repeat (go_quiet (fail); try go_wp2)
                go_roundg k4
                case measure => omega
                case rel =>
                  refine ⟨i + 1, acc ++ a.extract u v, rfl, rfl, ⟨by have := HI.out; omega⟩, ⟨by have := HI.out; omega⟩, ⟨?_⟩, ⟨Kd.C_drewN HC1.out _⟩, ⟨pw_below_drewN HB1.out _⟩⟩
                  rw [← HQ.out, HD.out, HY.out i hb, hgd, List.nil_append, cat_toList, List.append_assoc]
        · go_wp2
          repeat (go_quiet (fail); try go_wp2)
          go_roundg k4
          case measure => omega
          case rel =>
            refine ⟨i + 1, acc ++ a.extract u v, rfl, rfl, ⟨by have := HI.out; omega⟩, ⟨by have := HI.out; omega⟩, ⟨?_⟩, ⟨Kd.C_drewN HC1.out _⟩, ⟨pw_below_drewN HB1.out _⟩⟩
            rw [← HQ.out, HD.out, HZ.out i hb, List.nil_append, cat_toList, List.append_assoc]
      · have q1 := incR i xs.length hi c0
        have hacc : acc.data.toList = wd 0 := by
          have h := HQ.out
          rw [show i = xs.length - 1 by have := HI.out; omega, HE.out, List.append_nil] at h
          exact h
        have hsz : acc.size ≤ 100000 := by
          have : acc.data.toList.length ≤ 100000 := by rw [hacc]; exact HW.out
          exact this
        have C2 := Aside0.mk (fun W (hW : Below w.heap.size w W) => all_reads acc (by omega) (show allT acc.data.toList = (ys, cy, fy) by rw [hacc]; exact HY0.out) W (HG.out.at_ hW))
        rcases HOR.out with ⟨o1, o2⟩ | ⟨o1, o2, o6⟩
        · have o3 : 65536 < acc.size := by
            have : 65536 < acc.data.toList.length := by rw [hacc]; exact o1
            exact this
          have o4 : decide (65536 < (acc.size : Int)) = true := decide_eq_true (by omega)
          have o5 : decide (65536 < acc.size) = true := decide_eq_true o3
          have g1 : (cy == 0) = false := beq_eq_false_iff_ne.2 o2
          have g2 : (cy != 0) = true := bne_iff_ne.2 o2
          clear o1 o2 hacc
          go_wp2_with (go_at_call 9; (with_reducible refine (C2.out _ HB1.out).mono ?_); rintro e w2 ⟨A2, c2, rfl, hl2, hC2, hb2⟩; have HB2 := Aside0.mk (below_alloc (below_step HB1.out hb2) (.cells #[.int .i64 cy, .int .i64 fy] 25)); clear hb2 hC2 C2)
          repeat (go_quiet (fail); try go_wp2)
          go_ret
          exact ⟨rfl, HB2.out⟩
        · have HT := Aside0.mk o6
          clear o6
          subst o1
          have g1 : ((ys.length : Int) == (xs.length : Int)) = true := beq_iff_eq.2 (by omega)
          have g2 : (ys.length == xs.length) = true := beq_iff_eq.2 o2
          have g3 : ((ys.length : Int) != (xs.length : Int)) = false := bne_eq_false_iff_eq.2 (by omega)
          clear hacc
          go_wp2_with (go_at_call 9; (with_reducible refine (C2.out _ HB1.out).mono ?_); rintro e w2 ⟨A2, c2, rfl, hl2, hC2, hb2⟩; have HB2 := Aside0.mk (below_alloc (below_step HB1.out hb2) (.cells #[.int .i64 0, .int .i64 fy] 25)); have HX2 := Aside0.mk (blk_new w2 (.cells #[.int .i64 0, .int .i64 fy] 25)); have hx2 := (blk_cell HX2.out 0).trans (show (#[Value.int .i64 0, Value.int .i64 fy] : Array Value)[0]? = some (.int .i64 0) from rfl); have HD1 := Aside0.mk (Kd.C_alloc (Kd.C_below HC1.out hb2) (.cells #[.int .i64 0, .int .i64 fy] 25)); have HD2 := Aside0.mk (Kd.C_alloc hC2 (.cells #[.int .i64 0, .int .i64 fy] 25)); clear hb2 hC2 C2)
          repeat (go_quiet (fail); try go_wp2)
          clear hx2 HX2 g1 g2 g3 q1 HC1 HB1
          go_loopg [11] xs.length (fun kq v11 w' => ∃ j : Nat, v11 = .int .i64 (j : Int) ∧ Aside0 (j + kq = xs.length) ∧ Aside0 (k30.C w' (some ad1) xs.length xs) ∧ Aside0 (k30.C w' A2 ys.length ys) ∧ Aside0 (Below w.heap.size w w'))
          case atStart => exact ⟨0, rfl, ⟨Nat.zero_add _⟩, HD1, HD2, HB2⟩
          case round =>
            clear HD1 HD2 HB2
            obtain ⟨j, rfl, HJ, HC1, HD2, HB2⟩ := hrel
            cases gk with
            | zero =>
              have d1 : decide ((j : Int) < (xs.length : Int)) = false := decide_eq_false (by have := HJ.out; omega)
              have d2 : decide (j < xs.length) = false := decide_eq_false (by have := HJ.out; omega)
              go_wp2_with (go_at_call 12; (with_reducible refine (C4.out _ HB2.out).mono ?_); rintro e w4 ⟨rfl, hb4⟩; have HB4 := Aside0.mk (below_step HB2.out hb4); clear hb4 C4)
              repeat (go_quiet (fail); try go_wp2_with (go_at_call 12; (with_reducible refine (C4.out _ HB2.out).mono ?_); rintro e w4 ⟨rfl, hb4⟩; have HB4 := Aside0.mk (below_step HB2.out hb4); clear hb4 C4))
              go_ret
              exact ⟨rfl, HB4.out⟩
            | succ k5 =>
              have hj : j < xs.length := by have := HJ.out; omega
              obtain ⟨t0, t2, t3, t4, p, q, r, tp, tq, tr, hrp, hpq, hp5, hq5⟩ := HT.out j hj
              have p1 : 0 ≤ (j : Int) := Int.natCast_nonneg j
              have p2 : (j : Int) < (xs.length : Int) := by omega
              have p3 : (j : Int) < (ys.length : Int) := by omega
              obtain ⟨ad2, e2', hz0, hz1, hz2, hz3, hz4⟩ := at_T30 HD2.out (j : Int) p1 p3
              cases e2'
              obtain ⟨ad3, e3, hv0, hv1, hv2, hv3, hv4⟩ := at_T30 HC1.out (j : Int) p1 p2
              cases e3
              have TR := Aside0.mk (show (rd_T30 xs 0).f1 = (r : Int) from tr)
              rw [t0] at hz0
              rw [tq] at hz1
              rw [t2] at hz2
              rw [t3] at hz3
              rw [t4] at hz4
              rw [tp] at hv1
              simp only [Int.toNat_natCast] at hz0 hz1 hz2 hz3 hz4 hv0 hv1 hv2 hv3 hv4
              clear t0 t2 t3 t4 tp tq tr
              have d1 : decide ((j : Int) < (xs.length : Int)) = true := decide_eq_true p2
              have b1 : ad1.block < wr.heap.size := Kd.C_lt HC1.out (by omega) (by decide)
              have b2 : ad2.block < wr.heap.size := Kd.C_lt HD2.out (by omega) (by decide)
              have b3 : (ad1.add (j * 5)).block < wr.heap.size := by unfold Addr.add; split <;> exact b1
              have b4 : (ad2.add (j * 5)).block < wr.heap.size := by unfold Addr.add; split <;> exact b2
              replace p1 := eq_true p1
              replace p2 := eq_true p2
              replace p3 := eq_true p3
              have u1 : ((0 : Int) ≤ 0) = True := eq_true (Int.le_refl 0)
              have u2 : ((0 : Int) < (xs.length : Int)) = True := eq_true (by omega)
              have u3 : (0 < xs.length) = True := eq_true (by omega)
              have o1 : decide ((q : Int) < (p : Int) - (r : Int)) = false := decide_eq_false (by omega)
              try go_wp2
              go_region
              all_goals clear hz0 hz1 hz2 hz3 hz4 hv0 hv1 hv2 hv3 hv4 b1 b2 b3 b4
              · have hs : (wr.alloc (.cells #[.int .i64 (rd_T30 xs (j : Int)).f0, .int .i64 (p : Int), .string (rd_T30 xs (j : Int)).f2, .int .i64 (rd_T30 xs (j : Int)).f3, .int .u64 (rd_T30 xs (j : Int)).f4] 30)).heap.size = wr.heap.size + 1 := alloc_size wr _
                have T1 := blk_alloc (blk_new wr (.cells #[.int .i64 (rd_T30 xs (j : Int)).f0, .int .i64 (p : Int), .string (rd_T30 xs (j : Int)).f2, .int .i64 (rd_T30 xs (j : Int)).f3, .int .u64 (rd_T30 xs (j : Int)).f4] 30)) (.cells #[.int .i64 (rd_T30 xs (j : Int)).f0, .int .i64 (q : Int), .string (rd_T30 xs (j : Int)).f2, .int .i64 (rd_T30 xs (j : Int)).f3, .int .u64 (rd_T30 xs (j : Int)).f4] 30)
                have T2 := blk_new (wr.alloc (.cells #[.int .i64 (rd_T30 xs (j : Int)).f0, .int .i64 (p : Int), .string (rd_T30 xs (j : Int)).f2, .int .i64 (rd_T30 xs (j : Int)).f3, .int .u64 (rd_T30 xs (j : Int)).f4] 30)) (.cells #[.int .i64 (rd_T30 xs (j : Int)).f0, .int .i64 (q : Int), .string (rd_T30 xs (j : Int)).f2, .int .i64 (rd_T30 xs (j : Int)).f3, .int .u64 (rd_T30 xs (j : Int)).f4] 30)
                rw [hs] at T2
                have ha0 := (blk_cell T1 0).trans (show _ = some (.int .i64 (rd_T30 xs (j : Int)).f0 : Value) from rfl)
                have hc0 := (blk_cell T2 0).trans (show _ = some (.int .i64 (rd_T30 xs (j : Int)).f0 : Value) from rfl)
                have ha1 := (blk_cell T1 1).trans (show _ = some (.int .i64 (p : Int) : Value) from rfl)
                have hc1 := (blk_cell T2 1).trans (show _ = some (.int .i64 (q : Int) : Value) from rfl)
                have ha2 := (blk_cell T1 2).trans (show _ = some (.string (rd_T30 xs (j : Int)).f2 : Value) from rfl)
                have hc2 := (blk_cell T2 2).trans (show _ = some (.string (rd_T30 xs (j : Int)).f2 : Value) from rfl)
                have ha3 := (blk_cell T1 3).trans (show _ = some (.int .i64 (rd_T30 xs (j : Int)).f3 : Value) from rfl)
                have hc3 := (blk_cell T2 3).trans (show _ = some (.int .i64 (rd_T30 xs (j : Int)).f3 : Value) from rfl)
                have ha4 := (blk_cell T1 4).trans (show _ = some (.int .u64 (rd_T30 xs (j : Int)).f4 : Value) from rfl)
                have hc4 := (blk_cell T2 4).trans (show _ = some (.int .u64 (rd_T30 xs (j : Int)).f4 : Value) from rfl)
                have HE1 := Kd.C_alloc (Kd.C_alloc HC1.out (.cells #[.int .i64 (rd_T30 xs (j : Int)).f0, .int .i64 (p : Int), .string (rd_T30 xs (j : Int)).f2, .int .i64 (rd_T30 xs (j : Int)).f3, .int .u64 (rd_T30 xs (j : Int)).f4] 30)) (.cells #[.int .i64 (rd_T30 xs (j : Int)).f0, .int .i64 (q : Int), .string (rd_T30 xs (j : Int)).f2, .int .i64 (rd_T30 xs (j : Int)).f3, .int .u64 (rd_T30 xs (j : Int)).f4] 30)
                have HE2 := Kd.C_alloc (Kd.C_alloc HD2.out (.cells #[.int .i64 (rd_T30 xs (j : Int)).f0, .int .i64 (p : Int), .string (rd_T30 xs (j : Int)).f2, .int .i64 (rd_T30 xs (j : Int)).f3, .int .u64 (rd_T30 xs (j : Int)).f4] 30)) (.cells #[.int .i64 (rd_T30 xs (j : Int)).f0, .int .i64 (q : Int), .string (rd_T30 xs (j : Int)).f2, .int .i64 (rd_T30 xs (j : Int)).f3, .int .u64 (rd_T30 xs (j : Int)).f4] 30)
                have HEB := below_alloc (below_alloc HB2.out (.cells #[.int .i64 (rd_T30 xs (j : Int)).f0, .int .i64 (p : Int), .string (rd_T30 xs (j : Int)).f2, .int .i64 (rd_T30 xs (j : Int)).f3, .int .u64 (rd_T30 xs (j : Int)).f4] 30)) (.cells #[.int .i64 (rd_T30 xs (j : Int)).f0, .int .i64 (q : Int), .string (rd_T30 xs (j : Int)).f2, .int .i64 (rd_T30 xs (j : Int)).f3, .int .u64 (rd_T30 xs (j : Int)).f4] 30)
                obtain ⟨ad4, e4, hu0, hu1, hu2, hu3, hu4⟩ := at_T30 HE1 0 (Int.le_refl 0) (by omega)
                cases e4
                rw [TR.out] at hu1
                rw [show ((0 : Int)).toNat = 0 from rfl, show 0 * 5 = 0 from rfl, Addr.add_zero'] at hu1
                clear hu0 hu2 hu3 hu4 T1 T2 hs HC1 HD2 HB2
                generalize World.alloc (wr.alloc (.cells #[.int .i64 (rd_T30 xs (j : Int)).f0, .int .i64 (p : Int), .string (rd_T30 xs (j : Int)).f2, .int .i64 (rd_T30 xs (j : Int)).f3, .int .u64 (rd_T30 xs (j : Int)).f4] 30)) (.cells #[.int .i64 (rd_T30 xs (j : Int)).f0, .int .i64 (q : Int), .string (rd_T30 xs (j : Int)).f2, .int .i64 (rd_T30 xs (j : Int)).f3, .int .u64 (rd_T30 xs (j : Int)).f4] 30) = W at ha0 ha1 ha2 ha3 ha4 hc0 hc1 hc2 hc3 hc4 hu1 HE1 HE2 HEB ⊢
                have HC1 := Aside0.mk HE1
                have HD2 := Aside0.mk HE2
                have HB2 := Aside0.mk HEB
                clear HE1 HE2 HEB
                go_wp2
                repeat (go_quiet (fail); try go_wp2)
                go_roundg k5
                case measure => omega
                case rel => exact ⟨j + 1, rfl, ⟨by have := HJ.out; omega⟩, ⟨Kd.C_drewN HC1.out _⟩, ⟨Kd.C_drewN HD2.out _⟩, ⟨pw_below_drewN HB2.out _⟩⟩
              · have hs : (wr.alloc (.cells #[.int .i64 (rd_T30 xs (j : Int)).f0, .int .i64 (q : Int), .string (rd_T30 xs (j : Int)).f2, .int .i64 (rd_T30 xs (j : Int)).f3, .int .u64 (rd_T30 xs (j : Int)).f4] 30)).heap.size = wr.heap.size + 1 := alloc_size wr _
                have T1 := blk_alloc (blk_new wr (.cells #[.int .i64 (rd_T30 xs (j : Int)).f0, .int .i64 (q : Int), .string (rd_T30 xs (j : Int)).f2, .int .i64 (rd_T30 xs (j : Int)).f3, .int .u64 (rd_T30 xs (j : Int)).f4] 30)) (.cells #[.int .i64 (rd_T30 xs (j : Int)).f0, .int .i64 (p : Int), .string (rd_T30 xs (j : Int)).f2, .int .i64 (rd_T30 xs (j : Int)).f3, .int .u64 (rd_T30 xs (j : Int)).f4] 30)
                have T2 := blk_new (wr.alloc (.cells #[.int .i64 (rd_T30 xs (j : Int)).f0, .int .i64 (q : Int), .string (rd_T30 xs (j : Int)).f2, .int .i64 (rd_T30 xs (j : Int)).f3, .int .u64 (rd_T30 xs (j : Int)).f4] 30)) (.cells #[.int .i64 (rd_T30 xs (j : Int)).f0, .int .i64 (p : Int), .string (rd_T30 xs (j : Int)).f2, .int .i64 (rd_T30 xs (j : Int)).f3, .int .u64 (rd_T30 xs (j : Int)).f4] 30)
                rw [hs] at T2
                have ha0 := (blk_cell T1 0).trans (show _ = some (.int .i64 (rd_T30 xs (j : Int)).f0 : Value) from rfl)
                have hc0 := (blk_cell T2 0).trans (show _ = some (.int .i64 (rd_T30 xs (j : Int)).f0 : Value) from rfl)
                have ha1 := (blk_cell T1 1).trans (show _ = some (.int .i64 (q : Int) : Value) from rfl)
                have hc1 := (blk_cell T2 1).trans (show _ = some (.int .i64 (p : Int) : Value) from rfl)
                have ha2 := (blk_cell T1 2).trans (show _ = some (.string (rd_T30 xs (j : Int)).f2 : Value) from rfl)
                have hc2 := (blk_cell T2 2).trans (show _ = some (.string (rd_T30 xs (j : Int)).f2 : Value) from rfl)
                have ha3 := (blk_cell T1 3).trans (show _ = some (.int .i64 (rd_T30 xs (j : Int)).f3 : Value) from rfl)
                have hc3 := (blk_cell T2 3).trans (show _ = some (.int .i64 (rd_T30 xs (j : Int)).f3 : Value) from rfl)
                have ha4 := (blk_cell T1 4).trans (show _ = some (.int .u64 (rd_T30 xs (j : Int)).f4 : Value) from rfl)
                have hc4 := (blk_cell T2 4).trans (show _ = some (.int .u64 (rd_T30 xs (j : Int)).f4 : Value) from rfl)
                have HE1 := Kd.C_alloc (Kd.C_alloc HC1.out (.cells #[.int .i64 (rd_T30 xs (j : Int)).f0, .int .i64 (q : Int), .string (rd_T30 xs (j : Int)).f2, .int .i64 (rd_T30 xs (j : Int)).f3, .int .u64 (rd_T30 xs (j : Int)).f4] 30)) (.cells #[.int .i64 (rd_T30 xs (j : Int)).f0, .int .i64 (p : Int), .string (rd_T30 xs (j : Int)).f2, .int .i64 (rd_T30 xs (j : Int)).f3, .int .u64 (rd_T30 xs (j : Int)).f4] 30)
                have HE2 := Kd.C_alloc (Kd.C_alloc HD2.out (.cells #[.int .i64 (rd_T30 xs (j : Int)).f0, .int .i64 (q : Int), .string (rd_T30 xs (j : Int)).f2, .int .i64 (rd_T30 xs (j : Int)).f3, .int .u64 (rd_T30 xs (j : Int)).f4] 30)) (.cells #[.int .i64 (rd_T30 xs (j : Int)).f0, .int .i64 (p : Int), .string (rd_T30 xs (j : Int)).f2, .int .i64 (rd_T30 xs (j : Int)).f3, .int .u64 (rd_T30 xs (j : Int)).f4] 30)
                have HEB := below_alloc (below_alloc HB2.out (.cells #[.int .i64 (rd_T30 xs (j : Int)).f0, .int .i64 (q : Int), .string (rd_T30 xs (j : Int)).f2, .int .i64 (rd_T30 xs (j : Int)).f3, .int .u64 (rd_T30 xs (j : Int)).f4] 30)) (.cells #[.int .i64 (rd_T30 xs (j : Int)).f0, .int .i64 (p : Int), .string (rd_T30 xs (j : Int)).f2, .int .i64 (rd_T30 xs (j : Int)).f3, .int .u64 (rd_T30 xs (j : Int)).f4] 30)
                obtain ⟨ad4, e4, hu0, hu1, hu2, hu3, hu4⟩ := at_T30 HE1 0 (Int.le_refl 0) (by omega)
                cases e4
                rw [TR.out] at hu1
                rw [show ((0 : Int)).toNat = 0 from rfl, show 0 * 5 = 0 from rfl, Addr.add_zero'] at hu1
                clear hu0 hu2 hu3 hu4 T1 T2 hs HC1 HD2 HB2
                generalize World.alloc (wr.alloc (.cells #[.int .i64 (rd_T30 xs (j : Int)).f0, .int .i64 (q : Int), .string (rd_T30 xs (j : Int)).f2, .int .i64 (rd_T30 xs (j : Int)).f3, .int .u64 (rd_T30 xs (j : Int)).f4] 30)) (.cells #[.int .i64 (rd_T30 xs (j : Int)).f0, .int .i64 (p : Int), .string (rd_T30 xs (j : Int)).f2, .int .i64 (rd_T30 xs (j : Int)).f3, .int .u64 (rd_T30 xs (j : Int)).f4] 30) = W at ha0 ha1 ha2 ha3 ha4 hc0 hc1 hc2 hc3 hc4 hu1 HE1 HE2 HEB ⊢
                have HC1 := Aside0.mk HE1
                have HD2 := Aside0.mk HE2
                have HB2 := Aside0.mk HEB
                clear HE1 HE2 HEB
                go_wp2
                repeat (go_quiet (fail); try go_wp2)
                go_roundg k5
                case measure => omega
                case rel => exact ⟨j + 1, rfl, ⟨by have := HJ.out; omega⟩, ⟨Kd.C_drewN HC1.out _⟩, ⟨Kd.C_drewN HD2.out _⟩, ⟨pw_below_drewN HB2.out _⟩⟩
end Go.Proofs.YtjolkombhdibcaaDoor.Blk
end
section
namespace Go.Proofs.YtjolkombhdibcaaDoor.Sp
open Go.RowKit Go.Proofs.YtjolkombhdibcaaDoorW.PrintWords Go.Proofs.YtjolkombhdibcaaDoorW.PrintMore Go.Proofs.YtjolkombhdibcaaDoor.Given Go.Proofs.YtjolkombhdibcaaDoor.Print
set_option linter.unusedVariables false
set_option linter.unusedSimpArgs false
theorem blank10 : blank 10 := .inr (.inr rfl)
theorem blank9 : blank 9 := .inr (.inl rfl)
theorem blank32 : blank 32 := .inl rfl
theorem gap_nil : gapOK [] := ⟨.inl rfl, fun x q => rfl⟩
theorem gap_line : gapOK [10] := ⟨.inr ⟨[], rfl⟩, fun x q => by
  show toks (10 :: x) q = toks x (q + 1)
  rw [toks_blank blank10]⟩
theorem gap_wide : gapOK [10, 32, 32] := ⟨.inr ⟨[32, 32], rfl⟩, fun x q => by
  show toks (10 :: 32 :: 32 :: x) q = toks x (q + 3)
  rw [toks_blank blank10, toks_blank blank32, toks_blank blank32]⟩
theorem gap_remark : gapOK [10, 35, 32, 34, 123, 32, 114, 101, 109, 97, 114, 107, 10, 9] := ⟨.inr ⟨_, rfl⟩, fun x q => by
  show toks (10 :: 35 :: 32 :: 34 :: 123 :: 32 :: 114 :: 101 :: 109 :: 97 :: 114 :: 107 :: 10 :: 9 :: x) q = toks x (q + 14)
  have h : Given.runN lineB (32 :: 34 :: 123 :: 32 :: 114 :: 101 :: 109 :: 97 :: 114 :: 107 :: 10 :: 9 :: x) = 10 := rfl
  rw [toks_blank blank10, toks_hash, h]
  show toks (10 :: 9 :: x) (q + 1 + (1 + 10)) = _
  rw [toks_blank blank10, toks_blank blank9]⟩
theorem toks_pos : ∀ (k : Nat) (l : List UInt8) (p : Nat), l.length ≤ k → okE (toks l p) →
    (∀ e ∈ toks l p, ∃ m : Nat, e.1.f1 = (m : Int) ∧ p ≤ m ∧ m ≤ p + l.length) ∧ (posL (toks l p)).Pairwise (· < ·) := by
  intro k
  induction k with
  | zero =>
    intro l p h ho
    have : l = [] := List.eq_nil_of_length_eq_zero (by omega)
    subst this
    rw [toks_nil]
    refine ⟨fun e he => ?_, List.pairwise_singleton ..⟩
    rw [List.mem_singleton.1 he]
    exact ⟨p, rfl, Nat.le_refl _, Nat.le_refl _⟩
  | succ k ih =>
    intro l p h ho
    cases l with
    | nil =>
      rw [toks_nil]
      refine ⟨fun e he => ?_, List.pairwise_singleton ..⟩
      rw [List.mem_singleton.1 he]
      exact ⟨p, rfl, Nat.le_refl _, Nat.le_refl _⟩
    | cons c r =>
      have hr : r.length ≤ k := by simpa using h
      by_cases hb : blank c
      · rw [toks_blank hb] at ho ⊢
        obtain ⟨h1, h2⟩ := ih r (p + 1) hr ho
        refine ⟨fun e he => ?_, h2⟩
        obtain ⟨m, m1, m2, m3⟩ := h1 e he
        exact ⟨m, m1, by omega, by rw [List.length_cons]; omega⟩
      · by_cases h35 : c = 35
        · subst h35
          have hle := runN_le lineB r
          rw [toks_hash] at ho ⊢
          obtain ⟨h1, h2⟩ := ih _ _ (by rw [List.length_drop]; omega) ho
          refine ⟨fun e he => ?_, h2⟩
          obtain ⟨m, m1, m2, m3⟩ := h1 e he
          rw [List.length_drop] at m3
          exact ⟨m, m1, by omega, by rw [List.length_cons]; omega⟩
        · by_cases ht : te (nextT (c :: r)) = 0
          · obtain ⟨n, n1, n2, n3⟩ := next_n c r ht
            rw [toks_tok hb h35 r p n ht n1] at ho ⊢
            obtain ⟨h1, h2⟩ := ih ((c :: r).drop n) (p + n) (by rw [List.length_drop]; simp; omega) (fun x hx => ho x (by simp [hx]))
            rw [List.length_drop] at h1
            refine ⟨fun e he => ?_, ?_⟩
            · rcases List.mem_cons.1 he with rfl | he
              · exact ⟨p, rfl, Nat.le_refl _, by omega⟩
              · obtain ⟨m, m1, m2, m3⟩ := h1 e he
                exact ⟨m, m1, by omega, by omega⟩
            · refine List.Pairwise.cons (fun m hm => ?_) h2
              obtain ⟨e, he, rfl⟩ := List.mem_map.1 hm
              obtain ⟨m', m1, m2, m3⟩ := h1 e he
              show p < e.1.f1.toNat
              rw [m1, Int.toNat_natCast]
              omega
          · rw [toks_bad hb h35 r p ht] at ho
            exact absurd (ho _ (List.mem_singleton.2 rfl)) ht
theorem wide_len (L : List UInt8) (ins : Nat → List UInt8) (hi : ∀ i, (ins i).length ≤ 14) : ∀ (r : List Nat) (p i : Nat), (p :: r).Pairwise (· < ·) → (∀ x ∈ p :: r, x ≤ L.length) → (wideL L ins i (p :: r)).length + p ≤ L.length + 14 * r.length := by
  intro r
  induction r with
  | nil => intro p i _ h; have := h p (by simp); show 0 + p ≤ _; omega
  | cons b r ih =>
    intro p i hp h
    rw [wideL, List.length_append, List.length_append, List.length_drop, List.length_take]
    have h1 := ih b (i + 1) (List.pairwise_cons.1 hp).2 (fun x hx => h x (List.mem_cons_of_mem _ hx))
    have h2 := hi i
    have h3 := (List.pairwise_cons.1 hp).1 b (by simp)
    have h4 := h b (by simp)
    rw [List.length_cons]
    omega
theorem All2.length {α β : Type} {R : α → β → Prop} {l : List α} {m : List β} (h : All2 R l m) : l.length = m.length := by
  induction h with
  | nil => rfl
  | cons _ _ ih => rw [List.length_cons, List.length_cons, ih]
theorem All2.get {α β : Type} {R : α → β → Prop} {l : List α} {m : List β} (h : All2 R l m) : ∀ (i : Nat) (h1 : i < l.length) (h2 : i < m.length), R l[i] m[i] := by
  induction h with
  | nil => intro i h1; simp at h1
  | cons a _ ih =>
    intro i h1 h2
    cases i with
    | zero => exact a
    | succ i => exact ih i (by simpa using h1) (by simpa using h2)
theorem All2.mem_right {α β : Type} {R : α → β → Prop} {P : β → Prop} (hP : ∀ a b, R a b → P b) {l : List α} {m : List β} (h : All2 R l m) : ∀ b ∈ m, P b := by
  induction h with
  | nil => intro b hb; simp at hb
  | cons a _ ih =>
    intro b hb
    rcases List.mem_cons.1 hb with rfl | hb
    · exact hP _ _ a
    · exact ih b hb
end Go.Proofs.YtjolkombhdibcaaDoor.Sp
end
section
namespace Go.Proofs.YtjolkombhdibcaaDoor.Sp
open Go.RowKit Go.Proofs.YtjolkombhdibcaaDoorW.PrintWords Go.Proofs.YtjolkombhdibcaaDoorW.PrintMore Go.Proofs.YtjolkombhdibcaaDoor.Given Go.Proofs.YtjolkombhdibcaaDoor.Print
set_option linter.unusedVariables false
set_option linter.unusedSimpArgs false
theorem rdE (E : List E) (i : Nat) (h : i < E.length) : rd_T30 (E.map Prod.fst) (i : Int) = (E[i]).1 := by
  unfold rd_T30
  rw [Int.toNat_natCast, List.getD_eq_getElem?_getD, List.getElem?_map, List.getElem?_eq_getElem h]
  rfl
theorem blk_plain (L : List UInt8) (hL : L.length ≤ 5000) (ins : Nat → List UInt8) (hg : ∀ i, gapOK (ins i)) (h14 : ∀ i, (ins i).length ≤ 14) {xs : List S30} {fx : Int} (hx : allT L = (xs, 0, fx)) :
    1 ≤ xs.length ∧ xs.length ≤ 5001 ∧ (rd_T30 xs ((xs.length - 1 : Nat) : Int)).f0 = 7 ∧ ∃ wd : Nat → List UInt8,
      (∀ i : Nat, i + 1 < xs.length → ∃ u v : Nat, (rd_T30 xs (i : Int)).f1 = (u : Int) ∧ (rd_T30 xs ((i + 1 : Nat) : Int)).f1 = (v : Int) ∧ u < v ∧ v ≤ L.length ∧ wd i = (L.take v).drop u ++ (ins i ++ wd (i + 1))) ∧
      wd (xs.length - 1) = [] ∧ (wd 0).length ≤ 100000 ∧
      ((65536 < (wd 0).length ∧ (allT (wd 0)).2.1 ≠ 0) ∨ ((allT (wd 0)).2.1 = 0 ∧ (allT (wd 0)).1.length = xs.length ∧ ∀ j : Nat, j < xs.length →
        (rd_T30 (allT (wd 0)).1 (j : Int)).f0 = (rd_T30 xs (j : Int)).f0 ∧ (rd_T30 (allT (wd 0)).1 (j : Int)).f2 = (rd_T30 xs (j : Int)).f2 ∧ (rd_T30 (allT (wd 0)).1 (j : Int)).f3 = (rd_T30 xs (j : Int)).f3 ∧ (rd_T30 (allT (wd 0)).1 (j : Int)).f4 = (rd_T30 xs (j : Int)).f4 ∧
        ∃ p q r : Nat, (rd_T30 xs (j : Int)).f1 = (p : Int) ∧ (rd_T30 (allT (wd 0)).1 (j : Int)).f1 = (q : Int) ∧ (rd_T30 xs ((0 : Nat) : Int)).f1 = (r : Int) ∧ r ≤ p ∧ p ≤ q + r ∧ p ≤ 5000 ∧ q ≤ 100000)) := by
  have hsq : seqT L = toks L 0 := by unfold seqT; rw [if_neg (by omega)]
  have hx' := hx
  unfold allT at hx'
  rw [hsq] at hx'
  rcases col_cases (toks L 0) [] with ⟨ho, hc⟩ | ⟨p, t, c, q, r, _, _, h3, hc⟩
  · rw [hc, List.nil_append] at hx'
    have exs : xs = (toks L 0).map Prod.fst := (congrArg Prod.fst hx').symm
    obtain ⟨b, s, e, h1, h2, h3⟩ := skip_split _ L (Nat.le_refl _)
    have hE : toks L 0 = toks s b.length := by
      by_cases hs : s = []
      · have := h2 [] 0 (.inl rfl)
        rw [hs] at e ⊢
        rw [e, this, Nat.zero_add]
      · rw [e, h3 hs, Nat.zero_add]
    have hLl : L.length = b.length + s.length := by rw [e, List.length_append]
    have hs : s = L.drop b.length := by rw [e, List.drop_append_of_le_length (Nat.le_refl _), List.drop_length, List.nil_append]
    have hlast := toks_last _ s b.length (Nat.le_refl _) (hE ▸ ho)
    have hne := toks_ne _ s b.length (Nat.le_refl _)
    have hle := toks_le _ s b.length (Nat.le_refl _)
    rw [hE] at ho exs
    obtain ⟨g1, g2⟩ := toks_pos _ s b.length (Nat.le_refl _) ho
    obtain ⟨ps, hps⟩ := posL_head _ s b.length (Nat.le_refl _) ho h1
    obtain ⟨_, _, w3⟩ := wide_main L ins hg _ 0 b.length s (Nat.le_refl _) hs (by omega) h1 ho
    clear hE hx' hc hsq h2 h3
    generalize toks s b.length = E at ho exs hlast hne hle g1 g2 hps w3
    have hall : ∀ x ∈ posL E, x ≤ L.length := by
      intro x hx
      obtain ⟨e, he, rfl⟩ := List.mem_map.1 hx
      obtain ⟨m, m1, m2, m3⟩ := g1 e he
      rw [m1, Int.toNat_natCast]; omega
    have hwl := wide_len L ins h14 ps b.length 0 (hps ▸ g2) (hps ▸ hall)
    rw [← hps] at hwl
    have hpl : (posL E).length = E.length := List.length_map ..
    have hpg : ∀ i (h : i < E.length), ∃ m : Nat, (E[i]).1.f1 = (m : Int) ∧ (posL E)[i]'(by rw [hpl]; exact h) = m ∧ b.length ≤ m ∧ m ≤ L.length := by
      intro i h
      obtain ⟨m, m1, m2, m3⟩ := g1 _ (List.getElem_mem h)
      refine ⟨m, m1, ?_, m2, by omega⟩
      unfold posL
      rw [List.getElem_map, m1, Int.toNat_natCast]
    have hfst : b.length = (posL E)[0]'(by rw [hpl]; omega) := by
      have : (posL E)[0]? = some b.length := by rw [hps]; rfl
      rw [List.getElem?_eq_getElem (by rw [hpl]; omega)] at this
      exact (Option.some.inj this).symm
    have hwl' : (wideL L ins 0 (posL E)).length ≤ 100000 := by
      have : ps.length + 1 = E.length := by rw [← hpl, hps, List.length_cons]
      omega
    have hxl : xs.length = E.length := by rw [exs, List.length_map]
    refine ⟨by omega, by omega, ?_, fun i => wideL L ins i ((posL E).drop i), ?_, ?_, hwl', ?_⟩
    · obtain ⟨ys, hy⟩ := hlast
      rw [exs, List.length_map, rdE _ _ (by omega)]
      have : E[E.length - 1]? = some (endE (b.length + s.length)) := by rw [hy]; simp
      rw [List.getElem?_eq_getElem (by omega)] at this
      rw [Option.some.inj this]
      rfl
    · intro i hi
      rw [hxl] at hi
      obtain ⟨u, u1, u2, u3, u4⟩ := hpg i (by omega)
      obtain ⟨v, v1, v2, v3, v4⟩ := hpg (i + 1) hi
      refine ⟨u, v, ?_, ?_, ?_, v4, ?_⟩
      · rw [exs, rdE _ _ (by omega)]; exact u1
      · rw [exs, rdE _ _ hi]; exact v1
      · rw [← u2, ← v2]
        exact List.pairwise_iff_getElem.1 g2 i (i + 1) _ _ (by omega)
      · show wideL L ins i ((posL E).drop i) = _ ++ (ins i ++ wideL L ins (i + 1) ((posL E).drop (i + 1)))
        rw [List.drop_eq_getElem_cons (show i < (posL E).length by omega), List.drop_eq_getElem_cons (show i + 1 < (posL E).length by omega), wideL, u2, v2, List.append_assoc]
    · show wideL L ins (xs.length - 1) ((posL E).drop (xs.length - 1)) = []
      rw [hxl, List.drop_eq_getElem_cons (show E.length - 1 < (posL E).length by omega), List.drop_of_length_le (by omega)]
      rfl
    · simp only [List.drop_zero]
      by_cases hb : 65536 < (wideL L ins 0 (posL E)).length
      · left
        refine ⟨hb, ?_⟩
        show (allT (wideL L ins 0 (posL E))).2.1 ≠ 0
        unfold allT seqT
        rw [if_pos hb]
        decide
      · right
        have w4 := w3 0
        have hok : okE (toks (wideL L ins 0 (posL E)) 0) := w4.mem_right (fun a b h => h.2.2.2.2.1)
        have hA : allT (wideL L ins 0 (posL E)) = ((toks (wideL L ins 0 (posL E)) 0).map Prod.fst, 0, 0) := by
          unfold allT seqT
          rw [if_neg hb, col_all _ _ hok, List.nil_append]
        have hl2 := w4.length
        obtain ⟨k1, _⟩ := toks_pos _ (wideL L ins 0 (posL E)) 0 (Nat.le_refl _) hok
        rw [hA]
        dsimp only
        refine ⟨rfl, by rw [hxl, List.length_map]; exact hl2.symm, fun j hj => ?_⟩
        rw [hxl] at hj
        have hj2 : j < (toks (wideL L ins 0 (posL E)) 0).length := by omega
        obtain ⟨y1, y2, y3, y4, y5, y6⟩ := w4.get j hj hj2
        obtain ⟨q, q1, q2, q3⟩ := k1 _ (List.getElem_mem hj2)
        obtain ⟨p, p1, p2, p3, p4⟩ := hpg j hj
        obtain ⟨r, r1, r2, r3, r4⟩ := hpg 0 (by omega)
        rw [exs, rdE _ _ hj2, rdE _ _ hj, rdE _ _ (show 0 < E.length by omega)]
        refine ⟨y1, y2, y3, y4, p, q, r, p1, q1, r1, ?_, ?_, by omega, by omega⟩
        · have : r = b.length := by rw [← r2]; exact hfst.symm
          omega
        · have : r = b.length := by rw [← r2]; exact hfst.symm
          rw [p1, q1] at y6
          omega
  · rw [hc] at hx'
    exact absurd (congrArg (fun z => z.2.1) hx') h3
end Go.Proofs.YtjolkombhdibcaaDoor.Sp
end
section
namespace Go.Proofs.YtjolkombhdibcaaDoor.Blk
open Go.RowKit Go.Shelf Go.Proofs.YtjolkombhdibcaaDoorW.PrintWords Go.Proofs.YtjolkombhdibcaaDoorW.PrintMore Go.Proofs.YtjolkombhdibcaaDoorW.PrintLast Go.Proofs.YtjolkombhdibcaaDoor.Given Go.Proofs.YtjolkombhdibcaaDoor.Print Go.Proofs.YtjolkombhdibcaaDoor.Sp Go.Proofs.YtjolkombhdibcaaDoor.Two
set_option linter.unusedVariables false
theorem gapD_ok (d : Int) : gapOK (gapD d) ∧ (gapD d).length ≤ 14 := by
  unfold gapD
  split
  · exact ⟨gap_line, by decide⟩
  · split
    · exact ⟨gap_remark, by decide⟩
    · split
      · exact ⟨gap_wide, by decide⟩
      · exact ⟨gap_nil, by decide⟩
theorem holds (a : ByteArray) (B : Option Addr) (n c : Nat) (bl : List Int) (w : World) (hG : Glob w) (ha : a.size ≤ 140737488351232) (hBC : (Kd.int .i64).C w B n bl) :
    Calls Tryd.prog 5 #[.string a, .slice B n c] w fun e w' => e = .returned (.bool true) ∧ Below w.heap.size w w' := by
  by_cases h : 5000 < a.size
  · exact blk_long a B n c w h ha
  · have ha5 : a.size ≤ 5000 := by omega
    have la : a.data.toList.length ≤ 5000 := ha5
    rcases hx : allT a.data.toList with ⟨xs, cx, fx⟩
    by_cases c1 : cx = 0
    · subst c1
      obtain ⟨i1, i2, i3, wd, j1, j2, j3, j4⟩ := blk_plain a.data.toList la (fun i => if i < n then gapD (bits BinOp.and IntKind.i64 (rd bl (i : Int)) 3) else [])
        (fun i => by split; exact (gapD_ok _).1; exact gap_nil) (fun i => by split; exact (gapD_ok _).2; exact Nat.zero_le _) hx
      exact blk_good a B n c bl w hG ha5 hBC hx i1 i2 i3 _ wd (fun i hi => if_neg hi) (fun i hi => if_pos hi) j1 j2 j3 (ys := (allT (wd 0)).1) (cy := (allT (wd 0)).2.1) (fy := (allT (wd 0)).2.2) rfl j4
    · have e1 := (two_all a.data.toList [] la (by decide)).1
      rw [hx] at e1
      have e2 := e1 c1
      dsimp only at e2
      subst e2
      exact blk_bad a B n c w hG ha5 hx c1
end Go.Proofs.YtjolkombhdibcaaDoor.Blk
end
section
namespace Go.Proofs.YtjolkombhdibcaaDoor.Pure
open Go.RowKit Go.Proofs.YtjolkombhdibcaaDoorW.PrintWords Go.Proofs.YtjolkombhdibcaaDoor.Print
theorem blanks_read {w : World} {A : Option Addr} {n c : Nat} {zs : List Int} (hc : c ≤ 9223372036854775807) (hl : n ≤ c) (hz : n ≤ zs.length) (a : Addr) (hA : A = some a) (hcell : ∀ i, i < zs.length → w.cell? (a.add i) = some (.int .i64 (zs.getD i 0))) :
    (Kd.int .i64).C w A n (zs.take n) := by
  refine Kd.C_of_reads (d := (0 : Int)) ⟨by rw [List.length_take]; omega, by omega, fun _ => ⟨a, hA, fun j hj => ?_⟩⟩
  rw [hcell j (by omega), List.getD_eq_getElem?_getD, List.getD_eq_getElem?_getD, List.getElem?_take, if_pos hj]
theorem blanks_none {w : World} : (Kd.int .i64).C w none 0 ([] : List Int) := Kd.C_nil _ w
end Go.Proofs.YtjolkombhdibcaaDoor.Pure
namespace Go.Proofs.YtjolkombhdibcaaDoor.lexBlanks
open Go.ChangeShapes Go.WideShapes Go.ChangeAt Go.RowKit Go.Joins
open Go.ChangeMaps (open_string shut_string)
set_option linter.unusedVariables false
set_option maxRecDepth 100000 in
theorem lifted (os : Os) (started : os.Started) (H : Type) (enc : TypeId × Value → H) :
    ReturnsInHanded {} Tryd.checked os 5 .any (fun w args => (Rows.lexBlanksSpec.pre enc Tryd.prog Tryd.f5 [] false w args ∧ laidMetH Tryd.prog Laid.laid w) ∧ sizedMet enc Tryd.prog Tryd.f5 (OpenSpec.ofChange Rows.lexBlanksSpec) false w args) (Rows.lexBlanksSpec.post enc Tryd.prog Tryd.f5 false true false false) := by
  refine returnsInHanded_of_change_and (C := Tryd.checked) (X := fun w _ => laidMetH Tryd.prog Laid.laid w) (fun _ _ _ hh h => h.of_heap hh) Laid.own started (by kernel_rfl) Tryd.func5
    (ChangeSpec.witness_shaped (enc := enc) (C := Tryd.checked) (os := os) (X := fun w _ => laidMetH Tryd.prog Laid.laid w) false (World.doorLaid Tryd.prog 62 os) #[.string ByteArray.empty, .slice none 0 0] 8 rfl (World.shaped_of_RefB (by kernel_rfl) (by kernel_rfl)) (by kernel_rfl) (by kernel_rfl) (by kernel_rfl) (Laid.door_met os _)) ?_
  intro W base args ds gs before hval0 hW hcnd hsz0 hL _
  have hsz : (DataW.weightsEach Tryd.prog (Tryd.f5.params.toList ++ Rows.lexBlanksSpec.plain.varTypes Tryd.prog) (ds ++ gs)).all (· ≤ reachBytes) = true := hsz0
  have hval : ∀ (j : Nat) t v, Tryd.f5.params[j]? = some t → args[j]? = some v → Value.okWide Tryd.prog W .any base t v := hval0
  have hW' := hW
  obtain ⟨p, q, hA0, hV, rfl, hfz, hnd⟩ := hW
  have hA : DataW.TrodAll enc Tryd.prog W 0 (fun _ => true) true Tryd.f5.params.toList args.toList ds p := hA0
  rw [Tryd.params5] at hA hval hsz
  obtain ⟨v0, vs0, d0, ds0, p0, q0, hargs, rfl, rfl, h0, r0⟩ := trodAll_cons hA
  obtain ⟨v1, vs1, d1, ds1, p1, q1, rfl, rfl, rfl, h1, r1⟩ := trodAll_cons r0
  obtain ⟨rfl, rfl, rfl⟩ := trodAll_nil r1
  obtain rfl : args = #[v0, v1] := by cases args; simp_all
  obtain ⟨rfl, rfl⟩ := trodVars_none hV
  have hG : Given.Glob W := Laid.of_laid hL
  obtain ⟨a0, rfl, rfl, rfl, y0⟩ := open_string Tryd.underlying9 (hval 0 9 v0 rfl rfl) h0
  have w0 : a0.size ≤ 140737488351232 := by
    have z := sized_string hsz (j := 0) (t := 9) rfl rfl
    rw [Array.length_toList] at z
    exact z
  obtain ⟨B, n, c, rfl⟩ := Go.WideShapes.okWide_slice Tryd.underlying38 (hval 1 38 v1 rfl rfl)
  have h1k := h1
  obtain ⟨fuel0, hf⟩ := h1
  have hread : ∃ bl : List Int, (Go.Proofs.YtjolkombhdibcaaDoorW.PrintWords.Kd.int .i64).C W B n bl := by
    rcases Go.ChangeShapes.open_ints Tryd.underlying38 Tryd.underlying3 (show Tryd.prog.cellsOf 3 = 1 by kernel_rfl) hf with ⟨hcs, hx⟩ | ⟨a, len', cap', zs, hcs, _, hl, hm, hz, hx, hcell, hwz⟩
    · simp [Value.cells] at hcs
      obtain ⟨rfl, rfl, rfl⟩ := hcs
      exact ⟨[], Pure.blanks_none⟩
    · simp [Value.cells] at hcs
      obtain ⟨rfl, rfl, rfl⟩ := hcs
      simp only [if_true] at hz
      exact ⟨zs.take n, Pure.blanks_read (Nat.le_trans hm (by decide)) hl (by omega) a rfl hcell⟩
  obtain ⟨bl, hBC⟩ := hread
  have hlt : ∀ x ∈ p1, x.block < W.heap.size := fun x hx => by simpa using hW'.lt x (by simp [hx])
  clear hA0 hval0 hsz0 hsz
  refine (Blk.holds a0 B n c bl W hG w0 hBC).mono fun e W' ⟨he, bel⟩ => ?_
  subst he
  exact ⟨_, rfl, _, _, _, [], _, [], hW', trodAll_mk1 (shut_bool Tryd.underlying4 _), (trodAll_cons_mk (shut_string Tryd.underlying9 y0) (trodAll_cons_mk (Below.trod (show laidOutB Tryd.prog = true by kernel_rfl) (by kernel_rfl) (of_decide_eq_true (by kernel_rfl)) h1k bel hlt) trodAll_mk0)), rfl, bel.frame _, fun h => by cases h⟩
theorem over : Rows.lexBlanksRow.holds Tryd.pinned (OpenSpec.ofChange Rows.lexBlanksSpec) :=
  OpenClaim.holds_of_wide 5 Tryd.f5 rfl rfl rfl rfl rfl rfl rfl ⟨rfl, rfl, rfl, rfl, rfl⟩ rfl rfl rfl rfl rfl (by kernel_rfl) Tryd.func5 (by kernel_rfl)
    (of_decide_eq_true (by kernel_rfl)) (by unfold Func.isWrapper; first | (rw [if_pos (by decide +kernel)]; kernel_rfl) | (rw [if_neg (by decide +kernel)]; exact ⟨rfl, rfl⟩))
    (fun os started H enc _ => lifted os started H enc)
theorem card_holds : Rows.LexBlanksCardSaid :=
  Claim7.holds_tied_plain_at .later [] [.data, .data, .data, .sentinel, .sentinel] true (true, "431a033b8f36b9d9c52e85b2436dbd75d9d44333d6a5eb7a63f0f069f0875b74") true
    over (fun _ h => by cases h) (by kernel_rfl) (fun _ h => by cases h) lexBlanks_row_tie rfl ⟨rfl, rfl⟩ (by kernel_rfl) rfl
    (fun f fn hf hfn => by
      obtain rfl : f = 5 := Option.some.inj ((show Tryd.prog.funcNamed "casket/casketlaw11.LexBlanks" = some 5 by kernel_rfl).symm.trans hf) |>.symm
      obtain rfl : fn = Tryd.f5 := (Option.some.inj (Tryd.func5.symm.trans hfn)).symm
      exact ⟨by kernel_rfl, fun j t ht => by
        rw [Tryd.params5] at ht
        have hm : t ∈ [9, 38] := by simpa using Array.mem_of_getElem? ht
        have hall : ([9, 38].all fun u => !Tryd.prog.wantsStandIn u) = true := by kernel_rfl
        exact (show Tryd.prog.wantsStandIn t = false by simpa using List.all_eq_true.1 hall t hm)⟩)
    (by kernel_rfl)
#print axioms card_holds
end Go.Proofs.YtjolkombhdibcaaDoor.lexBlanks
namespace Go.Proofs.YtjolkombhdibcaaDoor
theorem lexBlanks_card : Rows.LexBlanksCardSaid := lexBlanks.card_holds
end Go.Proofs.YtjolkombhdibcaaDoor
end
