-- Written by a program of this session (wip/tools/myprint.py, over the kit's print.py). Not trusted: Lean checks it.
import Derived.Test.YtjdnneomkocghaaDoorPrint0
import Derived.Test.YtjdnneomkocghaaDoorPrint4
import Derived.Test.YtjdnneomkocghaaDoorPrint9
import Derived.Test.YtjdnneomkocghaaDoorPrint12
namespace Go.Proofs.YtjdnneomkocghaaDoor.Print
open Go.RowKit Go.Proofs.YtjdnneomkocghaaDoor.Given Go.Proofs.YtjdnneomkocghaaDoorW.PrintWords Go.Proofs.YtjdnneomkocghaaDoorW.PrintLast Go.Proofs.YtjdnneomkocghaaDoorW.PrintMore
attribute [local go_sem] max2_int min2_int max_two min_two max_three min_three max_four min_four   -- for this text's walks alone
set_option linter.unusedVariables false
set_option linter.unusedSimpArgs false

-- GIVEN: function 31 (strings_TrimPrefix)

-- GIVEN: function 39 (strings_HasPrefix)

/-! ### numtext_Parse: function 22 -/
def numtext_Parse.j0 : Nat → ByteArray → Bool → Option (Bool × Int × Int × Int)
  | 0, _, _ => none
  | k + 1, x0, x26 => if x26 = true then ((numtext_ParseFloat.f k x0).bind fun bt248 => (some (false, 0, bt248.1, bt248.2))) else ((numtext_ParseInt.f x0).bind fun bt250 => (some ((bt250.2 == 0), bt250.1, 0, bt250.2)))
def numtext_Parse.f (k : Nat) (a0 : ByteArray) : Option (Bool × Int × Int × Int) := if (a0.size : Int) > 64 then (some (false, 0, 0, 2)) else ((strings_TrimPrefix.f a0 (⟨#[45]⟩ : ByteArray)).bind fun t246 => ((strings_HasPrefix.f t246 (⟨#[48, 120]⟩ : ByteArray)).bind fun t247 => (if t247 = true then (numtext_Parse.j0 k a0 true) else (if a0.toList = ([110, 97, 110] : List UInt8) then (numtext_Parse.j0 k a0 true) else (if a0.toList = ([105, 110, 102] : List UInt8) then (numtext_Parse.j0 k a0 true) else (numtext_Parse.j0 k a0 (a0.toList == ([45, 105, 110, 102] : List UInt8))))))))
theorem numtext_Parse.mono_l : ∀ k, (∀ y0 y1, LeO (numtext_Parse.j0 k y0 y1) (numtext_Parse.j0 (k + 1) y0 y1))
  | 0 => fun _ _ r h => by simp [numtext_Parse.j0] at h
  | k + 1 => by
    have ih0 := numtext_Parse.mono_l k
    · intro y0 y1
      unfold numtext_Parse.j0
      repeat' first
      | (with_reducible exact ih0 _ _)
      | (with_reducible exact numtext_ParseFloat.mono _ _)
      | (with_reducible exact LeO.refl _)
      | (with_reducible exact LeO.none _)
      | (with_reducible refine LeO.ite ?_ ?_)
      | (with_reducible refine LeO.bind ?_ (fun _ => ?_))
      | exact ih0 _ _
      | exact numtext_ParseFloat.mono _ _
      | exact LeO.none _
      | refine LeO.ite ?_ ?_
      | refine LeO.bind ?_ (fun _ => ?_)
theorem numtext_Parse.mono : ∀ a0 k, LeO (numtext_Parse.f k a0) (numtext_Parse.f (k + 1) a0) := by
  intro a0 k
  have ih0 := numtext_Parse.mono_l k
  unfold numtext_Parse.f
  repeat' first
      | (with_reducible exact ih0 _ _)
      | (with_reducible exact numtext_ParseFloat.mono _ _)
      | (with_reducible exact LeO.refl _)
      | (with_reducible exact LeO.none _)
      | (with_reducible refine LeO.ite ?_ ?_)
      | (with_reducible refine LeO.bind ?_ (fun _ => ?_))
      | exact ih0 _ _
      | exact numtext_ParseFloat.mono _ _
      | exact LeO.none _
      | refine LeO.ite ?_ ?_
      | refine LeO.bind ?_ (fun _ => ?_)
set_option maxHeartbeats 8000000 in
set_option maxRecDepth 100000 in
theorem numtext_Parse.calls (k : Nat) (a0 : ByteArray) (r1 : Bool) (r2 : Int) (r3 : Int) (r4 : Int) (w : World) (hG : Glob w) (h : numtext_Parse.f k a0 = some (r1, r2, r3, r4)) :
    Calls Tryd.prog 22 #[.string a0] w fun e w' => e = .returned (.tuple #[.agg #[.bool r1, .int .i64 r2, .int .u64 r3], .int .i64 r4]) ∧ Below w.heap.size w w' := by
  have HG0 := Aside0.mk hG
  clear hG
  have hu36 := Tryd.underlying36
  have HB := Aside0.mk (Below.refl w.heap.size w)
  have H : (if (a0.size : Int) > 64 then (some (false, 0, 0, 2)) else ((strings_TrimPrefix.f a0 (⟨#[45]⟩ : ByteArray)).bind fun t246 => ((strings_HasPrefix.f t246 (⟨#[48, 120]⟩ : ByteArray)).bind fun t247 => (if t247 = true then (numtext_Parse.j0 k a0 true) else (if a0.toList = ([110, 97, 110] : List UInt8) then (numtext_Parse.j0 k a0 true) else (if a0.toList = ([105, 110, 102] : List UInt8) then (numtext_Parse.j0 k a0 true) else (numtext_Parse.j0 k a0 (a0.toList == ([45, 105, 110, 102] : List UInt8))))))))) = some (r1, r2, r3, r4) := h
  clear h
  by_cases c2 : (a0.size : Int) > 64
  · rw [if_pos c2] at H
    have c2b0 : decide (64 < (a0.size : Int)) = true := decide_eq_true c2
    have c2b1 : decide (64 < a0.size) = true := decide_eq_true (by omega)
    clear c2
    simp only [Option.some.injEq, Prod.mk.injEq] at H
    obtain ⟨rfl, rfl, rfl, rfl⟩ := H
    go_enter Tryd.func22, Tryd.ntmps22
    go_wp2_with (first | ((with_reducible refine gate_dst (N := 2) rfl ?_); refine box_event ?hg (N := 2) ?hd (cs := #[.bool false, .int .i64 0, .int .u64 0]) (t := 36) ?hr ?_; (case hd => rfl); (case hg => rfl); (case hr => first | (go_simp; done) | (go_simp; rfl)); intro gb245 hg w3 hbox hb; have n0_ := Aside0.mk (below_step (by repeat (first | (with_reducible first | exact HB.out | apply below_alloc | apply pw_below_drewN | apply below_drew1) | exact HB.out)) hb); have n1_ := Aside0.mk (hbox); have n2_ := Aside0.mk ((by rw [hg]; exact (below_size (by repeat (first | (with_reducible first | exact HB.out | apply below_alloc | apply pw_below_drewN | apply below_drew1) | exact HB.out))) : w.heap.size ≤ gb245)); have n3_ := Aside0.mk ((by rw [hg]; exact (below_size (by repeat (first | (with_reducible first | exact HB.out | apply below_alloc | apply pw_below_drewN | apply below_drew1) | exact HB.out))) : w.heap.size ≤ gb245)); clear HB; have HB := n0_; have BK245 := n1_; have GW245 := n2_; have GE245 := n3_; clear n0_ n1_ n2_ n3_; clear hb hbox hg; have hcz4_0 : w3.cell? ⟨gb245, 0, none⟩ = some (.bool false) := (blk_cell BK245.out 0).trans rfl; have hcz4_1 : w3.cell? ⟨gb245, 1, none⟩ = some (.int .i64 0) := (blk_cell BK245.out 1).trans rfl; have hcz4_2 : w3.cell? ⟨gb245, 2, none⟩ = some (.int .u64 0) := (blk_cell BK245.out 2).trans rfl; have hfz4_0 := blk_frozen BK245.out 0; have hfz4_1 := blk_frozen BK245.out 1; have hfz4_2 := blk_frozen BK245.out 2))
    refine bodyPost_ret (results_ct rfl _ _ gb245 36 #[.bool false, .int .i64 0, .int .u64 0] (0, 0) _ rfl (by (with_reducible repeat (first | refine blk_drewN ?_ _ | refine blk_drew ?_ | refine blk_alloc ?_ _)); refine blk_put (cs := #[.bool false, .int .i64 0, .int .u64 0]) ?_ 2 _ rfl; (with_reducible repeat (first | refine blk_drewN ?_ _ | refine blk_drew ?_ | refine blk_alloc ?_ _)); refine blk_put (cs := #[.bool false, .int .i64 0, .int .u64 0]) ?_ 1 _ rfl; (with_reducible repeat (first | refine blk_drewN ?_ _ | refine blk_drew ?_ | refine blk_alloc ?_ _)); refine blk_put (cs := #[.bool false, .int .i64 0, .int .u64 0]) ?_ 0 _ rfl; (with_reducible repeat (first | refine blk_drewN ?_ _ | refine blk_drew ?_ | refine blk_alloc ?_ _)); exact BK245.out) Tryd.underlying36 rfl (by kernel_rfl)) rfl ?_
    exact ⟨by first | rfl | (simp [errW_none, errW_some] <;> rfl) | (simp [*, errW_none, errW_some] <;> rfl), by repeat (first | (with_reducible first | exact HB.out | apply below_alloc | apply pw_below_drewN | apply below_drew1 | refine below_set ?_ GE245.out) | exact HB.out)⟩
  · rw [if_neg c2] at H
    have c2b0 : decide (64 < (a0.size : Int)) = false := decide_eq_false c2
    have c2b1 : decide (64 < a0.size) = false := decide_eq_false (by omega)
    clear c2
    have HC5 := Aside0.mk H
    clear H
    go_enter Tryd.func22, Tryd.ntmps22
    go_upto_region 3 with (first | ((with_reducible refine gate_dst (N := 2) rfl ?_); refine box_event ?hg (N := 2) ?hd (cs := #[.bool false, .int .i64 0, .int .u64 0]) (t := 36) ?hr ?_; (case hd => rfl); (case hg => rfl); (case hr => first | (go_simp; done) | (go_simp; rfl)); intro gb245 hg w6 hbox hb; have n0_ := Aside0.mk (below_step (by repeat (first | (with_reducible first | exact HB.out | apply below_alloc | apply pw_below_drewN | apply below_drew1) | exact HB.out)) hb); have n1_ := Aside0.mk (hbox); have n2_ := Aside0.mk ((by rw [hg]; exact (below_size (by repeat (first | (with_reducible first | exact HB.out | apply below_alloc | apply pw_below_drewN | apply below_drew1) | exact HB.out))) : w.heap.size ≤ gb245)); have n3_ := Aside0.mk ((by rw [hg]; exact (below_size (by repeat (first | (with_reducible first | exact HB.out | apply below_alloc | apply pw_below_drewN | apply below_drew1) | exact HB.out))) : w.heap.size ≤ gb245)); clear HB; have HB := n0_; have BK245 := n1_; have GW245 := n2_; have GE245 := n3_; clear n0_ n1_ n2_ n3_; clear hb hbox hg))
    (try simp only [Act.put, List.setIfInBounds_toArray, List.set_cons_zero, List.set_cons_succ])
    go_cut [26] (fun v26 wc => ∃ (kq : Nat) (x26_4 : Bool), v26 = .bool x26_4 ∧ Aside0 (numtext_Parse.j0 kq a0 x26_4 = some (r1, r2, r3, r4)) ∧ Aside0 (kq ≤ k) ∧ Aside0 (wc.heap[gb245]? = some (.cells #[.bool false, .int .i64 0, .int .u64 0] 36 (0, 0))) ∧ Aside0 (Below w.heap.size w wc))
    case first =>
      have H := HC5.out
      clear HC5
      replace H := Option.bind_eq_some_iff.mp H
      obtain ⟨t246, A70, H⟩ := H
      replace H : ((strings_HasPrefix.f t246 (⟨#[48, 120]⟩ : ByteArray)).bind fun t247 => (if t247 = true then (numtext_Parse.j0 k a0 true) else (if a0.toList = ([110, 97, 110] : List UInt8) then (numtext_Parse.j0 k a0 true) else (if a0.toList = ([105, 110, 102] : List UInt8) then (numtext_Parse.j0 k a0 true) else (numtext_Parse.j0 k a0 (a0.toList == ([45, 105, 110, 102] : List UInt8))))))) = some (r1, r2, r3, r4) := H
      have A7 := Aside0.mk A70
      clear A70
      replace H := Option.bind_eq_some_iff.mp H
      obtain ⟨t247, A80, H⟩ := H
      replace H : (if t247 = true then (numtext_Parse.j0 k a0 true) else (if a0.toList = ([110, 97, 110] : List UInt8) then (numtext_Parse.j0 k a0 true) else (if a0.toList = ([105, 110, 102] : List UInt8) then (numtext_Parse.j0 k a0 true) else (numtext_Parse.j0 k a0 (a0.toList == ([45, 105, 110, 102] : List UInt8)))))) = some (r1, r2, r3, r4) := H
      have A8 := Aside0.mk A80
      clear A80
      by_cases c9 : t247 = true
      · subst c9
        have H1 : (numtext_Parse.j0 k a0 true) = some (r1, r2, r3, r4) := by rw [if_pos rfl] at H; exact H
        clear H
        have H := H1
        clear H1
        have H' := Aside0.mk H
        clear H
        go_wp2_with (first | ((with_reducible refine gate_callee (f := 31) rfl ?_); refine goesL_ (some 13) rfl rfl Tryd.func31 (by kernel_rfl) rfl #[.string a0, .string (⟨#[45]⟩ : ByteArray)] rfl (by (try simp only [List.map_toArray, List.map_cons, List.map_nil]); first | done | rfl | (simp only [List.length_drop, List.length_take]; rfl)) ?_; (with_reducible refine (strings_TrimPrefix.calls a0 (⟨#[45]⟩ : ByteArray) t246 _ A7.out).mono ?_); rintro e w' ⟨rfl, ⟨nd, rfl⟩⟩; refine ⟨_, rfl, ?_⟩) | ((with_reducible refine gate_callee (f := 39) rfl ?_); refine goesL_ (some 14) rfl rfl Tryd.func39 (by kernel_rfl) rfl #[.string t246, .string (⟨#[48, 120]⟩ : ByteArray)] rfl (by (try simp only [List.map_toArray, List.map_cons, List.map_nil]); first | done | rfl | (simp only [List.length_drop, List.length_take]; rfl)) ?_; (with_reducible refine (strings_HasPrefix.calls t246 (⟨#[48, 120]⟩ : ByteArray) true _ A8.out).mono ?_); rintro e w' ⟨rfl, ⟨nd, rfl⟩⟩; refine ⟨_, rfl, ?_⟩))
        go_meet
        case rel => exact ⟨_, (true), (by first | rfl | (simp; done) | (simp [*]; done)), H', ⟨by first | omega | exact Nat.le_refl _⟩, ⟨by (with_reducible repeat (first | refine blk_drewN ?_ _ | refine blk_drew ?_ | refine blk_alloc ?_ _)); exact BK245.out⟩, ⟨by repeat (first | (with_reducible first | exact HB.out | apply below_alloc | apply pw_below_drewN | apply below_drew1 | refine below_set ?_ GE245.out) | exact HB.out)⟩⟩
      · replace c9 := Bool.eq_false_iff.mpr c9
        subst c9
        have H1 : (if a0.toList = ([110, 97, 110] : List UInt8) then (numtext_Parse.j0 k a0 true) else (if a0.toList = ([105, 110, 102] : List UInt8) then (numtext_Parse.j0 k a0 true) else (numtext_Parse.j0 k a0 (a0.toList == ([45, 105, 110, 102] : List UInt8))))) = some (r1, r2, r3, r4) := by rw [if_neg (show ¬ (false = true) by decide)] at H; exact H
        clear H
        have H := H1
        clear H1
        by_cases c10 : a0.toList = ([110, 97, 110] : List UInt8)
        · rw [if_pos c10] at H
          have c10b0 : (a0.toList == ([110, 97, 110] : List UInt8)) = true := beq_iff_eq.mpr c10
          have c10b1 : (a0.toList != ([110, 97, 110] : List UInt8)) = false := bne_eq_false_iff_eq.mpr c10
          clear c10
          (first | rw [c10b0] | (simp only [i64_w, i32_w]; rw [c10b0]) | skip)
          have H' := Aside0.mk H
          clear H
          go_wp2_with (first | ((with_reducible refine gate_callee (f := 31) rfl ?_); refine goesL_ (some 13) rfl rfl Tryd.func31 (by kernel_rfl) rfl #[.string a0, .string (⟨#[45]⟩ : ByteArray)] rfl (by (try simp only [List.map_toArray, List.map_cons, List.map_nil]); first | done | rfl | (simp only [List.length_drop, List.length_take]; rfl)) ?_; (with_reducible refine (strings_TrimPrefix.calls a0 (⟨#[45]⟩ : ByteArray) t246 _ A7.out).mono ?_); rintro e w' ⟨rfl, ⟨nd, rfl⟩⟩; refine ⟨_, rfl, ?_⟩) | ((with_reducible refine gate_callee (f := 39) rfl ?_); refine goesL_ (some 14) rfl rfl Tryd.func39 (by kernel_rfl) rfl #[.string t246, .string (⟨#[48, 120]⟩ : ByteArray)] rfl (by (try simp only [List.map_toArray, List.map_cons, List.map_nil]); first | done | rfl | (simp only [List.length_drop, List.length_take]; rfl)) ?_; (with_reducible refine (strings_HasPrefix.calls t246 (⟨#[48, 120]⟩ : ByteArray) false _ A8.out).mono ?_); rintro e w' ⟨rfl, ⟨nd, rfl⟩⟩; refine ⟨_, rfl, ?_⟩))
          go_meet
          case rel => exact ⟨_, (true), (by first | rfl | (simp; done) | (simp [*]; done)), H', ⟨by first | omega | exact Nat.le_refl _⟩, ⟨by (with_reducible repeat (first | refine blk_drewN ?_ _ | refine blk_drew ?_ | refine blk_alloc ?_ _)); exact BK245.out⟩, ⟨by repeat (first | (with_reducible first | exact HB.out | apply below_alloc | apply pw_below_drewN | apply below_drew1 | refine below_set ?_ GE245.out) | exact HB.out)⟩⟩
        · rw [if_neg c10] at H
          have c10b0 : (a0.toList == ([110, 97, 110] : List UInt8)) = false := beq_eq_false_iff_ne.mpr c10
          have c10b1 : (a0.toList != ([110, 97, 110] : List UInt8)) = true := bne_iff_ne.mpr c10
          (first | rw [c10b0] | (simp only [i64_w, i32_w]; rw [c10b0]) | skip)
          by_cases c11 : a0.toList = ([105, 110, 102] : List UInt8)
          · rw [if_pos c11] at H
            have c11b0 : (a0.toList == ([105, 110, 102] : List UInt8)) = true := beq_iff_eq.mpr c11
            have c11b1 : (a0.toList != ([105, 110, 102] : List UInt8)) = false := bne_eq_false_iff_eq.mpr c11
            clear c11
            have H' := Aside0.mk H
            clear H
            go_wp2_with (first | ((with_reducible refine gate_callee (f := 31) rfl ?_); refine goesL_ (some 13) rfl rfl Tryd.func31 (by kernel_rfl) rfl #[.string a0, .string (⟨#[45]⟩ : ByteArray)] rfl (by (try simp only [List.map_toArray, List.map_cons, List.map_nil]); first | done | rfl | (simp only [List.length_drop, List.length_take]; rfl)) ?_; (with_reducible refine (strings_TrimPrefix.calls a0 (⟨#[45]⟩ : ByteArray) t246 _ A7.out).mono ?_); rintro e w' ⟨rfl, ⟨nd, rfl⟩⟩; refine ⟨_, rfl, ?_⟩) | ((with_reducible refine gate_callee (f := 39) rfl ?_); refine goesL_ (some 14) rfl rfl Tryd.func39 (by kernel_rfl) rfl #[.string t246, .string (⟨#[48, 120]⟩ : ByteArray)] rfl (by (try simp only [List.map_toArray, List.map_cons, List.map_nil]); first | done | rfl | (simp only [List.length_drop, List.length_take]; rfl)) ?_; (with_reducible refine (strings_HasPrefix.calls t246 (⟨#[48, 120]⟩ : ByteArray) false _ A8.out).mono ?_); rintro e w' ⟨rfl, ⟨nd, rfl⟩⟩; refine ⟨_, rfl, ?_⟩))
            go_meet
            case rel => exact ⟨_, (true), (by first | rfl | (simp; done) | (simp [*]; done)), H', ⟨by first | omega | exact Nat.le_refl _⟩, ⟨by (with_reducible repeat (first | refine blk_drewN ?_ _ | refine blk_drew ?_ | refine blk_alloc ?_ _)); exact BK245.out⟩, ⟨by repeat (first | (with_reducible first | exact HB.out | apply below_alloc | apply pw_below_drewN | apply below_drew1 | refine below_set ?_ GE245.out) | exact HB.out)⟩⟩
          · rw [if_neg c11] at H
            have c11b0 : (a0.toList == ([105, 110, 102] : List UInt8)) = false := beq_eq_false_iff_ne.mpr c11
            have c11b1 : (a0.toList != ([105, 110, 102] : List UInt8)) = true := bne_iff_ne.mpr c11
            have H' := Aside0.mk H
            clear H
            go_wp2_with (first | ((with_reducible refine gate_callee (f := 31) rfl ?_); refine goesL_ (some 13) rfl rfl Tryd.func31 (by kernel_rfl) rfl #[.string a0, .string (⟨#[45]⟩ : ByteArray)] rfl (by (try simp only [List.map_toArray, List.map_cons, List.map_nil]); first | done | rfl | (simp only [List.length_drop, List.length_take]; rfl)) ?_; (with_reducible refine (strings_TrimPrefix.calls a0 (⟨#[45]⟩ : ByteArray) t246 _ A7.out).mono ?_); rintro e w' ⟨rfl, ⟨nd, rfl⟩⟩; refine ⟨_, rfl, ?_⟩) | ((with_reducible refine gate_callee (f := 39) rfl ?_); refine goesL_ (some 14) rfl rfl Tryd.func39 (by kernel_rfl) rfl #[.string t246, .string (⟨#[48, 120]⟩ : ByteArray)] rfl (by (try simp only [List.map_toArray, List.map_cons, List.map_nil]); first | done | rfl | (simp only [List.length_drop, List.length_take]; rfl)) ?_; (with_reducible refine (strings_HasPrefix.calls t246 (⟨#[48, 120]⟩ : ByteArray) false _ A8.out).mono ?_); rintro e w' ⟨rfl, ⟨nd, rfl⟩⟩; refine ⟨_, rfl, ?_⟩))
            go_meet
            case rel => exact ⟨_, ((a0.toList == ([45, 105, 110, 102] : List UInt8))), (by first | rfl | (simp; done) | (simp [*]; done)), H', ⟨by first | omega | exact Nat.le_refl _⟩, ⟨by (with_reducible repeat (first | refine blk_drewN ?_ _ | refine blk_drew ?_ | refine blk_alloc ?_ _)); exact BK245.out⟩, ⟨by repeat (first | (with_reducible first | exact HB.out | apply below_alloc | apply pw_below_drewN | apply below_drew1 | refine below_set ?_ GE245.out) | exact HB.out)⟩⟩
    case rest =>
      clear HC5
      try clear c1
      try clear c2
      try clear c2b0
      try clear c2b1
      try clear p2
      try clear c3
      try clear c9
      try clear c10
      try clear c10b0
      try clear c10b1
      try clear c11
      try clear c11b0
      try clear c11b1
      try clear hcz4_0
      try clear hcz4_1
      try clear hcz4_2
      try clear hfz4_0
      try clear hfz4_1
      try clear hfz4_2
      obtain ⟨kq, x26_4, rfl, HA, HJ4, BK245, HB⟩ := hcut
      cases kq with
      | zero => exact absurd HA.out (by simp [numtext_Parse.j0])
      | succ kj4 =>
        have H := HA.out
        clear HA
        simp only [numtext_Parse.j0] at H
        by_cases c12 : x26_4 = true
        · subst c12
          have H1 : ((numtext_ParseFloat.f kj4 a0).bind fun bt248 => (some (false, 0, bt248.1, bt248.2))) = some (r1, r2, r3, r4) := by rw [if_pos rfl] at H; exact H
          clear H
          have H := H1
          clear H1
          replace H := Option.bind_eq_some_iff.mp H
          obtain ⟨⟨t248, t249⟩, A130, H⟩ := H
          replace H : (some (false, 0, t248, t249)) = some (r1, r2, r3, r4) := H
          have A13 := Aside0.mk A130
          clear A130
          simp only [Option.some.injEq, Prod.mk.injEq] at H
          obtain ⟨rfl, rfl, rfl, rfl⟩ := H
          go_wp2_with (first | ((with_reducible refine gate_callee (f := 12) rfl ?_); refine goesL_ (some 29) rfl rfl Tryd.func12 (by kernel_rfl) rfl #[.string a0] rfl (by (try simp only [List.map_toArray, List.map_cons, List.map_nil]); first | done | rfl | (simp only [List.length_drop, List.length_take]; rfl)) ?_; (with_reducible refine (numtext_ParseFloat.calls (hG := (by first | exact Glob.at_ HG0.out (by repeat (first | (with_reducible first | exact HB.out | apply below_alloc | apply pw_below_drewN | apply below_drew1 | refine below_set ?_ GE245.out) | exact HB.out)) | exact Glob.at_ HG0.out (Below.refl _ _))) kj4 a0 t248 t249 _ A13.out).mono ?_); rintro e w14 ⟨rfl, hb⟩; refine ⟨_, rfl, ?_⟩; have n0_ := Aside0.mk (blk_below (g := gb245) (o := .cells #[.bool false, .int .i64 0, .int .u64 0] 36 (0, 0)) (by (with_reducible repeat (first | refine blk_drewN ?_ _ | refine blk_drew ?_ | refine blk_alloc ?_ _)); exact BK245.out) hb); have n1_ := Aside0.mk (below_step (by repeat (first | (with_reducible first | exact HB.out | apply below_alloc | apply pw_below_drewN | apply below_drew1 | refine below_set ?_ GE245.out) | exact HB.out)) hb); clear BK245; clear HB; have BK245 := n0_; have HB := n1_; clear n0_ n1_; (try clear hb); (try clear hb2); (try clear hk); (try clear hi); have hcz15_0 : w14.cell? ⟨gb245, 0, none⟩ = some (.bool false) := (blk_cell BK245.out 0).trans rfl; have hcz15_1 : w14.cell? ⟨gb245, 1, none⟩ = some (.int .i64 0) := (blk_cell BK245.out 1).trans rfl; have hcz15_2 : w14.cell? ⟨gb245, 2, none⟩ = some (.int .u64 0) := (blk_cell BK245.out 2).trans rfl; have hfz15_0 := blk_frozen BK245.out 0; have hfz15_1 := blk_frozen BK245.out 1; have hfz15_2 := blk_frozen BK245.out 2))
          refine bodyPost_ret (results_ct rfl _ _ gb245 36 #[.bool false, .int .i64 0, .int .u64 t248] (0, 0) _ rfl (by (with_reducible repeat (first | refine blk_drewN ?_ _ | refine blk_drew ?_ | refine blk_alloc ?_ _)); refine blk_put (cs := #[.bool false, .int .i64 0, .int .u64 0]) ?_ 2 _ rfl; (with_reducible repeat (first | refine blk_drewN ?_ _ | refine blk_drew ?_ | refine blk_alloc ?_ _)); refine blk_put (cs := #[.bool false, .int .i64 0, .int .u64 0]) ?_ 1 _ rfl; (with_reducible repeat (first | refine blk_drewN ?_ _ | refine blk_drew ?_ | refine blk_alloc ?_ _)); refine blk_put (cs := #[.bool false, .int .i64 0, .int .u64 0]) ?_ 0 _ rfl; (with_reducible repeat (first | refine blk_drewN ?_ _ | refine blk_drew ?_ | refine blk_alloc ?_ _)); exact BK245.out) Tryd.underlying36 rfl (by kernel_rfl)) rfl ?_
          exact ⟨by first | rfl | (simp [errW_none, errW_some] <;> rfl) | (simp [*, errW_none, errW_some] <;> rfl), by repeat (first | (with_reducible first | exact HB.out | apply below_alloc | apply pw_below_drewN | apply below_drew1 | refine below_set ?_ GE245.out) | exact HB.out)⟩
        · replace c12 := Bool.eq_false_iff.mpr c12
          subst c12
          have H1 : ((numtext_ParseInt.f a0).bind fun bt250 => (some ((bt250.2 == 0), bt250.1, 0, bt250.2))) = some (r1, r2, r3, r4) := by rw [if_neg (show ¬ (false = true) by decide)] at H; exact H
          clear H
          have H := H1
          clear H1
          replace H := Option.bind_eq_some_iff.mp H
          obtain ⟨⟨t250, t251⟩, A160, H⟩ := H
          replace H : (some ((t251 == 0), t250, 0, t251)) = some (r1, r2, r3, r4) := H
          have A16 := Aside0.mk A160
          clear A160
          simp only [Option.some.injEq, Prod.mk.injEq] at H
          obtain ⟨rfl, rfl, rfl, rfl⟩ := H
          go_wp2_with (first | ((with_reducible refine gate_callee (f := 14) rfl ?_); refine goesL_ (some 37) rfl rfl Tryd.func14 (by kernel_rfl) rfl #[.string a0] rfl (by (try simp only [List.map_toArray, List.map_cons, List.map_nil]); first | done | rfl | (simp only [List.length_drop, List.length_take]; rfl)) ?_; (with_reducible refine (numtext_ParseInt.calls (hG := (by first | exact Glob.at_ HG0.out (by repeat (first | (with_reducible first | exact HB.out | apply below_alloc | apply pw_below_drewN | apply below_drew1 | refine below_set ?_ GE245.out) | exact HB.out)) | exact Glob.at_ HG0.out (Below.refl _ _))) a0 t250 t251 _ A16.out).mono ?_); rintro e w17 ⟨rfl, hb⟩; refine ⟨_, rfl, ?_⟩; have n0_ := Aside0.mk (blk_below (g := gb245) (o := .cells #[.bool false, .int .i64 0, .int .u64 0] 36 (0, 0)) (by (with_reducible repeat (first | refine blk_drewN ?_ _ | refine blk_drew ?_ | refine blk_alloc ?_ _)); exact BK245.out) hb); have n1_ := Aside0.mk (below_step (by repeat (first | (with_reducible first | exact HB.out | apply below_alloc | apply pw_below_drewN | apply below_drew1 | refine below_set ?_ GE245.out) | exact HB.out)) hb); clear BK245; clear HB; have BK245 := n0_; have HB := n1_; clear n0_ n1_; (try clear hb); (try clear hb2); (try clear hk); (try clear hi); have hcz18_0 : w17.cell? ⟨gb245, 0, none⟩ = some (.bool false) := (blk_cell BK245.out 0).trans rfl; have hcz18_1 : w17.cell? ⟨gb245, 1, none⟩ = some (.int .i64 0) := (blk_cell BK245.out 1).trans rfl; have hcz18_2 : w17.cell? ⟨gb245, 2, none⟩ = some (.int .u64 0) := (blk_cell BK245.out 2).trans rfl; have hfz18_0 := blk_frozen BK245.out 0; have hfz18_1 := blk_frozen BK245.out 1; have hfz18_2 := blk_frozen BK245.out 2))
          refine bodyPost_ret (results_ct rfl _ _ gb245 36 #[.bool (t251 == 0), .int .i64 t250, .int .u64 0] (0, 0) _ rfl (by (with_reducible repeat (first | refine blk_drewN ?_ _ | refine blk_drew ?_ | refine blk_alloc ?_ _)); refine blk_put (cs := #[.bool (t251 == 0), .int .i64 t250, .int .u64 0]) ?_ 2 _ rfl; (with_reducible repeat (first | refine blk_drewN ?_ _ | refine blk_drew ?_ | refine blk_alloc ?_ _)); refine blk_put (cs := #[.bool (t251 == 0), .int .i64 0, .int .u64 0]) ?_ 1 _ rfl; (with_reducible repeat (first | refine blk_drewN ?_ _ | refine blk_drew ?_ | refine blk_alloc ?_ _)); refine blk_put (cs := #[.bool false, .int .i64 0, .int .u64 0]) ?_ 0 _ rfl; (with_reducible repeat (first | refine blk_drewN ?_ _ | refine blk_drew ?_ | refine blk_alloc ?_ _)); exact BK245.out) Tryd.underlying36 rfl (by kernel_rfl)) rfl ?_
          exact ⟨by first | rfl | (simp [errW_none, errW_some] <;> rfl) | (simp [*, errW_none, errW_some] <;> rfl), by repeat (first | (with_reducible first | exact HB.out | apply below_alloc | apply pw_below_drewN | apply below_drew1 | refine below_set ?_ GE245.out) | exact HB.out)⟩

/-! ### casketref4_Parse: function 23 -/
mutual
def casketref4_Parse.j0 : Nat → ByteArray → ByteArray → Bool → Option (Bool × Int × Int × Int)
  | 0, _, _, _ => none
  | k + 1, x0, x4, x20 => if x20 = true then (if 1 ≤ (x4.size : Int) then (casketref4_Parse.j1 k x0 (x4.extract 1 x4.size)) else (none)) else (casketref4_Parse.j1 k x0 x4)
def casketref4_Parse.j1 : Nat → ByteArray → ByteArray → Option (Bool × Int × Int × Int)
  | 0, _, _ => none
  | k + 1, x0, x4 => if (x4.size : Int) ≥ 2 then (if 0 < (x4.size : Int) then (if (bt x4 0) = 48 then (if 1 < (x4.size : Int) then (if (bt x4 1) = 120 then (casketref4_Parse.j2 k x0 true) else (if x0.toList = ([110, 97, 110] : List UInt8) then (casketref4_Parse.j2 k x0 true) else (if x0.toList = ([105, 110, 102] : List UInt8) then (casketref4_Parse.j2 k x0 true) else (casketref4_Parse.j2 k x0 (x0.toList == ([45, 105, 110, 102] : List UInt8)))))) else (none)) else (if x0.toList = ([110, 97, 110] : List UInt8) then (casketref4_Parse.j2 k x0 true) else (if x0.toList = ([105, 110, 102] : List UInt8) then (casketref4_Parse.j2 k x0 true) else (casketref4_Parse.j2 k x0 (x0.toList == ([45, 105, 110, 102] : List UInt8)))))) else (none)) else (if x0.toList = ([110, 97, 110] : List UInt8) then (casketref4_Parse.j2 k x0 true) else (if x0.toList = ([105, 110, 102] : List UInt8) then (casketref4_Parse.j2 k x0 true) else (casketref4_Parse.j2 k x0 (x0.toList == ([45, 105, 110, 102] : List UInt8)))))
def casketref4_Parse.j2 : Nat → ByteArray → Bool → Option (Bool × Int × Int × Int)
  | 0, _, _ => none
  | k + 1, x0, x47 => if x47 = true then ((casketref4_ParseFloat.f k x0).bind fun bt253 => (if bt253.2 = 0 then (some (false, 0, bt253.1, 0)) else (some (false, 0, 0, bt253.2)))) else ((casketref4_ParseInt.f k x0).bind fun bt255 => (if bt255.2 = 0 then (some (true, bt255.1, 0, 0)) else (some (false, 0, 0, bt255.2))))
end
def casketref4_Parse.f (k : Nat) (a0 : ByteArray) : Option (Bool × Int × Int × Int) := if (a0.size : Int) > 64 then (some (false, 0, 0, 2)) else (if a0.toList = ([] : List UInt8) then (casketref4_Parse.j0 k a0 a0 false) else (if 0 < (a0.size : Int) then (casketref4_Parse.j0 k a0 a0 ((bt a0 0) == 45)) else (none)))
theorem casketref4_Parse.mono_l : ∀ k, (∀ y0 y1 y2, LeO (casketref4_Parse.j0 k y0 y1 y2) (casketref4_Parse.j0 (k + 1) y0 y1 y2)) ∧ (∀ y0 y1, LeO (casketref4_Parse.j1 k y0 y1) (casketref4_Parse.j1 (k + 1) y0 y1)) ∧ (∀ y0 y1, LeO (casketref4_Parse.j2 k y0 y1) (casketref4_Parse.j2 (k + 1) y0 y1))
  | 0 => ⟨fun _ _ _ r h => by simp [casketref4_Parse.j0] at h, fun _ _ r h => by simp [casketref4_Parse.j1] at h, fun _ _ r h => by simp [casketref4_Parse.j2] at h⟩
  | k + 1 => by
    obtain ⟨ih0, ih1, ih2⟩ := casketref4_Parse.mono_l k
    refine ⟨?_, ?_, ?_⟩
    · intro y0 y1 y2
      unfold casketref4_Parse.j0
      repeat' first
      | (with_reducible exact ih0 _ _ _)
      | (with_reducible exact ih1 _ _)
      | (with_reducible exact ih2 _ _)
      | (with_reducible exact casketref4_ParseFloat.mono _ _)
      | (with_reducible exact casketref4_ParseInt.mono _ _)
      | (with_reducible exact LeO.refl _)
      | (with_reducible exact LeO.none _)
      | (with_reducible refine LeO.ite ?_ ?_)
      | (with_reducible refine LeO.bind ?_ (fun _ => ?_))
      | exact ih0 _ _ _
      | exact ih1 _ _
      | exact ih2 _ _
      | exact casketref4_ParseFloat.mono _ _
      | exact casketref4_ParseInt.mono _ _
      | exact LeO.none _
      | refine LeO.ite ?_ ?_
      | refine LeO.bind ?_ (fun _ => ?_)
    · intro y0 y1
      unfold casketref4_Parse.j1
      repeat' first
      | (with_reducible exact ih0 _ _ _)
      | (with_reducible exact ih1 _ _)
      | (with_reducible exact ih2 _ _)
      | (with_reducible exact casketref4_ParseFloat.mono _ _)
      | (with_reducible exact casketref4_ParseInt.mono _ _)
      | (with_reducible exact LeO.refl _)
      | (with_reducible exact LeO.none _)
      | (with_reducible refine LeO.ite ?_ ?_)
      | (with_reducible refine LeO.bind ?_ (fun _ => ?_))
      | exact ih0 _ _ _
      | exact ih1 _ _
      | exact ih2 _ _
      | exact casketref4_ParseFloat.mono _ _
      | exact casketref4_ParseInt.mono _ _
      | exact LeO.none _
      | refine LeO.ite ?_ ?_
      | refine LeO.bind ?_ (fun _ => ?_)
    · intro y0 y1
      unfold casketref4_Parse.j2
      repeat' first
      | (with_reducible exact ih0 _ _ _)
      | (with_reducible exact ih1 _ _)
      | (with_reducible exact ih2 _ _)
      | (with_reducible exact casketref4_ParseFloat.mono _ _)
      | (with_reducible exact casketref4_ParseInt.mono _ _)
      | (with_reducible exact LeO.refl _)
      | (with_reducible exact LeO.none _)
      | (with_reducible refine LeO.ite ?_ ?_)
      | (with_reducible refine LeO.bind ?_ (fun _ => ?_))
      | exact ih0 _ _ _
      | exact ih1 _ _
      | exact ih2 _ _
      | exact casketref4_ParseFloat.mono _ _
      | exact casketref4_ParseInt.mono _ _
      | exact LeO.none _
      | refine LeO.ite ?_ ?_
      | refine LeO.bind ?_ (fun _ => ?_)
theorem casketref4_Parse.mono : ∀ a0 k, LeO (casketref4_Parse.f k a0) (casketref4_Parse.f (k + 1) a0) := by
  intro a0 k
  obtain ⟨ih0, ih1, ih2⟩ := casketref4_Parse.mono_l k
  unfold casketref4_Parse.f
  repeat' first
      | (with_reducible exact ih0 _ _ _)
      | (with_reducible exact ih1 _ _)
      | (with_reducible exact ih2 _ _)
      | (with_reducible exact casketref4_ParseFloat.mono _ _)
      | (with_reducible exact casketref4_ParseInt.mono _ _)
      | (with_reducible exact LeO.refl _)
      | (with_reducible exact LeO.none _)
      | (with_reducible refine LeO.ite ?_ ?_)
      | (with_reducible refine LeO.bind ?_ (fun _ => ?_))
      | exact ih0 _ _ _
      | exact ih1 _ _
      | exact ih2 _ _
      | exact casketref4_ParseFloat.mono _ _
      | exact casketref4_ParseInt.mono _ _
      | exact LeO.none _
      | refine LeO.ite ?_ ?_
      | refine LeO.bind ?_ (fun _ => ?_)
set_option maxHeartbeats 8000000 in
set_option maxRecDepth 100000 in
theorem casketref4_Parse.calls (k : Nat) (a0 : ByteArray) (r1 : Bool) (r2 : Int) (r3 : Int) (r4 : Int) (w : World) (h : casketref4_Parse.f k a0 = some (r1, r2, r3, r4)) :
    Calls Tryd.prog 23 #[.string a0] w fun e w' => e = .returned (.tuple #[.agg #[.bool r1, .int .i64 r2, .int .u64 r3], .int .i64 r4]) ∧ Below w.heap.size w w' := by
  have hu36 := Tryd.underlying36
  have HB := Aside0.mk (Below.refl w.heap.size w)
  have H : (if (a0.size : Int) > 64 then (some (false, 0, 0, 2)) else (if a0.toList = ([] : List UInt8) then (casketref4_Parse.j0 k a0 a0 false) else (if 0 < (a0.size : Int) then (casketref4_Parse.j0 k a0 a0 ((bt a0 0) == 45)) else (none)))) = some (r1, r2, r3, r4) := h
  clear h
  by_cases c2 : (a0.size : Int) > 64
  · rw [if_pos c2] at H
    have c2b0 : decide (64 < (a0.size : Int)) = true := decide_eq_true c2
    have c2b1 : decide (64 < a0.size) = true := decide_eq_true (by omega)
    clear c2
    simp only [Option.some.injEq, Prod.mk.injEq] at H
    obtain ⟨rfl, rfl, rfl, rfl⟩ := H
    go_enter Tryd.func23, Tryd.ntmps23
    go_wp2_with (first | ((with_reducible refine gate_dst (N := 2) rfl ?_); refine box_event ?hg (N := 2) ?hd (cs := #[.bool false, .int .i64 0, .int .u64 0]) (t := 36) ?hr ?_; (case hd => rfl); (case hg => rfl); (case hr => first | (go_simp; done) | (go_simp; rfl)); intro gb252 hg w3 hbox hb; have n0_ := Aside0.mk (below_step (by repeat (first | (with_reducible first | exact HB.out | apply below_alloc | apply pw_below_drewN | apply below_drew1) | exact HB.out)) hb); have n1_ := Aside0.mk (hbox); have n2_ := Aside0.mk ((by rw [hg]; exact (below_size (by repeat (first | (with_reducible first | exact HB.out | apply below_alloc | apply pw_below_drewN | apply below_drew1) | exact HB.out))) : w.heap.size ≤ gb252)); have n3_ := Aside0.mk ((by rw [hg]; exact (below_size (by repeat (first | (with_reducible first | exact HB.out | apply below_alloc | apply pw_below_drewN | apply below_drew1) | exact HB.out))) : w.heap.size ≤ gb252)); clear HB; have HB := n0_; have BK252 := n1_; have GW252 := n2_; have GE252 := n3_; clear n0_ n1_ n2_ n3_; clear hb hbox hg; have hcz4_0 : w3.cell? ⟨gb252, 0, none⟩ = some (.bool false) := (blk_cell BK252.out 0).trans rfl; have hcz4_1 : w3.cell? ⟨gb252, 1, none⟩ = some (.int .i64 0) := (blk_cell BK252.out 1).trans rfl; have hcz4_2 : w3.cell? ⟨gb252, 2, none⟩ = some (.int .u64 0) := (blk_cell BK252.out 2).trans rfl; have hfz4_0 := blk_frozen BK252.out 0; have hfz4_1 := blk_frozen BK252.out 1; have hfz4_2 := blk_frozen BK252.out 2))
    refine bodyPost_ret (results_ct rfl _ _ gb252 36 #[.bool false, .int .i64 0, .int .u64 0] (0, 0) _ rfl (by (with_reducible repeat (first | refine blk_drewN ?_ _ | refine blk_drew ?_ | refine blk_alloc ?_ _)); refine blk_put (cs := #[.bool false, .int .i64 0, .int .u64 0]) ?_ 2 _ rfl; (with_reducible repeat (first | refine blk_drewN ?_ _ | refine blk_drew ?_ | refine blk_alloc ?_ _)); refine blk_put (cs := #[.bool false, .int .i64 0, .int .u64 0]) ?_ 1 _ rfl; (with_reducible repeat (first | refine blk_drewN ?_ _ | refine blk_drew ?_ | refine blk_alloc ?_ _)); refine blk_put (cs := #[.bool false, .int .i64 0, .int .u64 0]) ?_ 0 _ rfl; (with_reducible repeat (first | refine blk_drewN ?_ _ | refine blk_drew ?_ | refine blk_alloc ?_ _)); exact BK252.out) Tryd.underlying36 rfl (by kernel_rfl)) rfl ?_
    exact ⟨by first | rfl | (simp [errW_none, errW_some] <;> rfl) | (simp [*, errW_none, errW_some] <;> rfl), by repeat (first | (with_reducible first | exact HB.out | apply below_alloc | apply pw_below_drewN | apply below_drew1 | refine below_set ?_ GE252.out) | exact HB.out)⟩
  · rw [if_neg c2] at H
    have c2b0 : decide (64 < (a0.size : Int)) = false := decide_eq_false c2
    have c2b1 : decide (64 < a0.size) = false := decide_eq_false (by omega)
    clear c2
    have HC5 := Aside0.mk H
    clear H
    go_enter Tryd.func23, Tryd.ntmps23
    go_upto_region 4 with (first | ((with_reducible refine gate_dst (N := 2) rfl ?_); refine box_event ?hg (N := 2) ?hd (cs := #[.bool false, .int .i64 0, .int .u64 0]) (t := 36) ?hr ?_; (case hd => rfl); (case hg => rfl); (case hr => first | (go_simp; done) | (go_simp; rfl)); intro gb252 hg w6 hbox hb; have n0_ := Aside0.mk (below_step (by repeat (first | (with_reducible first | exact HB.out | apply below_alloc | apply pw_below_drewN | apply below_drew1) | exact HB.out)) hb); have n1_ := Aside0.mk (hbox); have n2_ := Aside0.mk ((by rw [hg]; exact (below_size (by repeat (first | (with_reducible first | exact HB.out | apply below_alloc | apply pw_below_drewN | apply below_drew1) | exact HB.out))) : w.heap.size ≤ gb252)); have n3_ := Aside0.mk ((by rw [hg]; exact (below_size (by repeat (first | (with_reducible first | exact HB.out | apply below_alloc | apply pw_below_drewN | apply below_drew1) | exact HB.out))) : w.heap.size ≤ gb252)); clear HB; have HB := n0_; have BK252 := n1_; have GW252 := n2_; have GE252 := n3_; clear n0_ n1_ n2_ n3_; clear hb hbox hg))
    (try simp only [Act.put, List.setIfInBounds_toArray, List.set_cons_zero, List.set_cons_succ])
    go_cut [20] (fun v20 wc => ∃ (kq : Nat) (x20_4 : Bool), v20 = .bool x20_4 ∧ Aside0 (casketref4_Parse.j0 kq a0 a0 x20_4 = some (r1, r2, r3, r4)) ∧ Aside0 (kq ≤ k) ∧ Aside0 (wc.heap[gb252]? = some (.cells #[.bool false, .int .i64 0, .int .u64 0] 36 (0, 0))) ∧ Aside0 (Below w.heap.size w wc))
    case first =>
      have H := HC5.out
      clear HC5
      by_cases c7 : a0.toList = ([] : List UInt8)
      · rw [if_pos c7] at H
        have c7b0 : (a0.toList == ([] : List UInt8)) = true := beq_iff_eq.mpr c7
        have c7b1 : (a0.toList != ([] : List UInt8)) = false := bne_eq_false_iff_eq.mpr c7
        clear c7
        (first | rw [c7b0] | (simp only [i64_w, i32_w]; rw [c7b0]) | skip)
        have H' := Aside0.mk H
        clear H
        go_wp2
        go_meet
        case rel => exact ⟨_, (false), (by first | rfl | (simp; done) | (simp [*]; done)), H', ⟨by first | omega | exact Nat.le_refl _⟩, ⟨by (with_reducible repeat (first | refine blk_drewN ?_ _ | refine blk_drew ?_ | refine blk_alloc ?_ _)); exact BK252.out⟩, ⟨by repeat (first | (with_reducible first | exact HB.out | apply below_alloc | apply pw_below_drewN | apply below_drew1 | refine below_set ?_ GE252.out) | exact HB.out)⟩⟩
      · rw [if_neg c7] at H
        have c7b0 : (a0.toList == ([] : List UInt8)) = false := beq_eq_false_iff_ne.mpr c7
        have c7b1 : (a0.toList != ([] : List UInt8)) = true := bne_iff_ne.mpr c7
        (first | rw [c7b0] | (simp only [i64_w, i32_w]; rw [c7b0]) | skip)
        by_cases c8 : 0 < (a0.size : Int)
        · rw [if_pos c8] at H
          have c8b0 : decide (0 < (a0.size : Int)) = true := decide_eq_true c8
          have c8b1 : decide (0 < a0.size) = true := decide_eq_true (by omega)
          clear c8
          have H' := Aside0.mk H
          clear H
          have p9 : 0 ≤ (0 : Int) := (by omega)
          have q9 : 0 < a0.size := (by have : (0 : Int) < (a0.size : Int) := of_decide_eq_true (by first | (with_reducible assumption) | assumption); omega)
          have hx9 : ∀ h : 0 < a0.size, ((a0[0]'h).toNat : Int) = bt a0 0 := bt_at a0 0
          clear p9
          have qi9 : (0 < (a0.size : Int)) = True := eq_true (of_decide_eq_true (by first | (with_reducible assumption) | assumption))
          replace q9 := eq_true q9
          go_wp2
          go_meet
          case rel => exact ⟨_, (((bt a0 0) == 45)), (by first | rfl | (simp; done) | (simp [*]; done)), H', ⟨by first | omega | exact Nat.le_refl _⟩, ⟨by (with_reducible repeat (first | refine blk_drewN ?_ _ | refine blk_drew ?_ | refine blk_alloc ?_ _)); exact BK252.out⟩, ⟨by repeat (first | (with_reducible first | exact HB.out | apply below_alloc | apply pw_below_drewN | apply below_drew1 | refine below_set ?_ GE252.out) | exact HB.out)⟩⟩
        · rw [if_neg c8] at H
          exact absurd H (by simp)
    case rest =>
      clear HC5
      try clear c2
      try clear c2b0
      try clear c2b1
      try clear p2
      try clear c7
      try clear c7b0
      try clear c7b1
      try clear c8
      try clear c8b0
      try clear c8b1
      try clear p9
      try clear q9
      try clear hx9
      try clear qi9
      try clear hcz4_0
      try clear hcz4_1
      try clear hcz4_2
      try clear hfz4_0
      try clear hfz4_1
      try clear hfz4_2
      try clear p9
      try clear q9
      obtain ⟨kq, x20_4, rfl, HA, HJ4, BK252, HB⟩ := hcut
      cases kq with
      | zero => exact absurd HA.out (by simp [casketref4_Parse.j0])
      | succ kj4 =>
        have H := HA.out
        clear HA
        simp only [casketref4_Parse.j0] at H
        have HC10 := Aside0.mk H
        clear H
        go_upto_if 20 with (fail)
        go_cut [4] (fun v4 wc => ∃ (kq : Nat) (x4_9 : ByteArray), v4 = .string x4_9 ∧ Aside0 (casketref4_Parse.j1 kq a0 x4_9 = some (r1, r2, r3, r4)) ∧ Aside0 (kq ≤ kj4) ∧ Aside0 (wc.heap[gb252]? = some (.cells #[.bool false, .int .i64 0, .int .u64 0] 36 (0, 0))) ∧ Aside0 (Below w.heap.size w wc))
        case first =>
          have H := HC10.out
          clear HC10
          by_cases c11 : x20_4 = true
          · subst c11
            have H1 : (if 1 ≤ (a0.size : Int) then (casketref4_Parse.j1 kj4 a0 (a0.extract 1 a0.size)) else (none)) = some (r1, r2, r3, r4) := by rw [if_pos rfl] at H; exact H
            clear H
            have H := H1
            clear H1
            by_cases c12 : 1 ≤ (a0.size : Int)
            · rw [if_pos c12] at H
              have c12b0 := eq_true c12
              have c12b1 : decide (1 ≤ (a0.size : Int)) = true := decide_eq_true c12
              clear c12
              have H' := Aside0.mk H
              clear H
              go_wp2
              go_meet
              case rel => exact ⟨_, (a0.extract 1 a0.size), (by first | rfl | (simp; done) | (simp [*]; done)), H', ⟨by have := HJ4.out; first | omega | exact Nat.le_refl _⟩, ⟨by (with_reducible repeat (first | refine blk_drewN ?_ _ | refine blk_drew ?_ | refine blk_alloc ?_ _)); exact BK252.out⟩, ⟨by repeat (first | (with_reducible first | exact HB.out | apply below_alloc | apply pw_below_drewN | apply below_drew1 | refine below_set ?_ GE252.out) | exact HB.out)⟩⟩
            · rw [if_neg c12] at H
              exact absurd H (by simp)
          · replace c11 := Bool.eq_false_iff.mpr c11
            subst c11
            have H1 : (casketref4_Parse.j1 kj4 a0 a0) = some (r1, r2, r3, r4) := by rw [if_neg (show ¬ (false = true) by decide)] at H; exact H
            clear H
            have H := H1
            clear H1
            have H' := Aside0.mk H
            clear H
            go_wp2
            go_meet
            case rel => exact ⟨_, (a0), (by first | rfl | (simp; done) | (simp [*]; done)), H', ⟨by have := HJ4.out; first | omega | exact Nat.le_refl _⟩, ⟨by (with_reducible repeat (first | refine blk_drewN ?_ _ | refine blk_drew ?_ | refine blk_alloc ?_ _)); exact BK252.out⟩, ⟨by repeat (first | (with_reducible first | exact HB.out | apply below_alloc | apply pw_below_drewN | apply below_drew1 | refine below_set ?_ GE252.out) | exact HB.out)⟩⟩
        case rest =>
          clear HC10
          try clear c1
          try clear c2
          try clear c2b0
          try clear c2b1
          try clear p2
          try clear c7
          try clear c7b0
          try clear c7b1
          try clear c8
          try clear c8b0
          try clear c8b1
          try clear p9
          try clear q9
          try clear hx9
          try clear qi9
          try clear c11
          try clear c12
          try clear c12b0
          try clear c12b1
          try clear hcz4_0
          try clear hcz4_1
          try clear hcz4_2
          try clear hfz4_0
          try clear hfz4_1
          try clear hfz4_2
          try clear p2
          try clear p9
          try clear q9
          obtain ⟨kq, x4_9, rfl, HA, HJ9, BK252, HB⟩ := hcut
          cases kq with
          | zero => exact absurd HA.out (by simp [casketref4_Parse.j1])
          | succ kj9 =>
            have H := HA.out
            clear HA
            simp only [casketref4_Parse.j1] at H
            have HC13 := Aside0.mk H
            clear H
            go_upto_region 6 with (fail)
            go_cut [47] (fun v47 wc => ∃ (kq : Nat) (x47_12 : Bool), v47 = .bool x47_12 ∧ Aside0 (casketref4_Parse.j2 kq a0 x47_12 = some (r1, r2, r3, r4)) ∧ Aside0 (kq ≤ kj9) ∧ Aside0 (wc.heap[gb252]? = some (.cells #[.bool false, .int .i64 0, .int .u64 0] 36 (0, 0))) ∧ Aside0 (Below w.heap.size w wc))
            case first =>
              have H := HC13.out
              clear HC13
              by_cases c14 : (x4_9.size : Int) ≥ 2
              · rw [if_pos c14] at H
                have c14b0 : decide (2 ≤ (x4_9.size : Int)) = true := decide_eq_true c14
                have c14b1 : decide (2 ≤ x4_9.size) = true := decide_eq_true (by omega)
                clear c14
                (first | rw [c14b0] | (simp only [i64_w, i32_w]; rw [c14b0]) | skip)
                by_cases c15 : 0 < (x4_9.size : Int)
                · rw [if_pos c15] at H
                  have c15b0 : decide (0 < (x4_9.size : Int)) = true := decide_eq_true c15
                  have c15b1 : decide (0 < x4_9.size) = true := decide_eq_true (by omega)
                  clear c15
                  by_cases c17 : (bt x4_9 0) = 48
                  · rw [if_pos c17] at H
                    have c17b0 : ((bt x4_9 0) == 48) = true := beq_iff_eq.mpr c17
                    have c17b1 : ((bt x4_9 0) != 48) = false := bne_eq_false_iff_eq.mpr c17
                    clear c17
                    by_cases c18 : 1 < (x4_9.size : Int)
                    · rw [if_pos c18] at H
                      have c18b0 : decide (1 < (x4_9.size : Int)) = true := decide_eq_true c18
                      have c18b1 : decide (1 < x4_9.size) = true := decide_eq_true (by omega)
                      clear c18
                      by_cases c20 : (bt x4_9 1) = 120
                      · rw [if_pos c20] at H
                        have c20b0 : ((bt x4_9 1) == 120) = true := beq_iff_eq.mpr c20
                        have c20b1 : ((bt x4_9 1) != 120) = false := bne_eq_false_iff_eq.mpr c20
                        clear c20
                        have H' := Aside0.mk H
                        clear H
                        have p16 : 0 ≤ (0 : Int) := (by omega)
                        have q16 : 0 < x4_9.size := (by have : (0 : Int) < (x4_9.size : Int) := of_decide_eq_true (by first | (with_reducible assumption) | assumption); omega)
                        have hx16 : ∀ h : 0 < x4_9.size, ((x4_9[0]'h).toNat : Int) = bt x4_9 0 := bt_at x4_9 0
                        clear p16
                        have qi16 : (0 < (x4_9.size : Int)) = True := eq_true (of_decide_eq_true (by first | (with_reducible assumption) | assumption))
                        replace q16 := eq_true q16
                        have p19 : 0 ≤ (1 : Int) := (by omega)
                        have q19 : 1 < x4_9.size := (by have : (1 : Int) < (x4_9.size : Int) := of_decide_eq_true (by first | (with_reducible assumption) | assumption); omega)
                        have hx19 : ∀ h : 1 < x4_9.size, ((x4_9[1]'h).toNat : Int) = bt x4_9 1 := bt_at x4_9 1
                        clear p19
                        have qi19 : (1 < (x4_9.size : Int)) = True := eq_true (of_decide_eq_true (by first | (with_reducible assumption) | assumption))
                        replace q19 := eq_true q19
                        go_wp2
                        go_meet
                        case rel => exact ⟨_, (true), (by first | rfl | (simp; done) | (simp [*]; done)), H', ⟨by have := HJ4.out; have := HJ9.out; first | omega | exact Nat.le_refl _⟩, ⟨by (with_reducible repeat (first | refine blk_drewN ?_ _ | refine blk_drew ?_ | refine blk_alloc ?_ _)); exact BK252.out⟩, ⟨by repeat (first | (with_reducible first | exact HB.out | apply below_alloc | apply pw_below_drewN | apply below_drew1 | refine below_set ?_ GE252.out) | exact HB.out)⟩⟩
                      · rw [if_neg c20] at H
                        have c20b0 : ((bt x4_9 1) == 120) = false := beq_eq_false_iff_ne.mpr c20
                        have c20b1 : ((bt x4_9 1) != 120) = true := bne_iff_ne.mpr c20
                        by_cases c21 : a0.toList = ([110, 97, 110] : List UInt8)
                        · rw [if_pos c21] at H
                          have c21b0 : (a0.toList == ([110, 97, 110] : List UInt8)) = true := beq_iff_eq.mpr c21
                          have c21b1 : (a0.toList != ([110, 97, 110] : List UInt8)) = false := bne_eq_false_iff_eq.mpr c21
                          clear c21
                          have H' := Aside0.mk H
                          clear H
                          have p16 : 0 ≤ (0 : Int) := (by omega)
                          have q16 : 0 < x4_9.size := (by have : (0 : Int) < (x4_9.size : Int) := of_decide_eq_true (by first | (with_reducible assumption) | assumption); omega)
                          have hx16 : ∀ h : 0 < x4_9.size, ((x4_9[0]'h).toNat : Int) = bt x4_9 0 := bt_at x4_9 0
                          clear p16
                          have qi16 : (0 < (x4_9.size : Int)) = True := eq_true (of_decide_eq_true (by first | (with_reducible assumption) | assumption))
                          replace q16 := eq_true q16
                          have p19 : 0 ≤ (1 : Int) := (by omega)
                          have q19 : 1 < x4_9.size := (by have : (1 : Int) < (x4_9.size : Int) := of_decide_eq_true (by first | (with_reducible assumption) | assumption); omega)
                          have hx19 : ∀ h : 1 < x4_9.size, ((x4_9[1]'h).toNat : Int) = bt x4_9 1 := bt_at x4_9 1
                          clear p19
                          have qi19 : (1 < (x4_9.size : Int)) = True := eq_true (of_decide_eq_true (by first | (with_reducible assumption) | assumption))
                          replace q19 := eq_true q19
                          go_wp2
                          go_meet
                          case rel => exact ⟨_, (true), (by first | rfl | (simp; done) | (simp [*]; done)), H', ⟨by have := HJ4.out; have := HJ9.out; first | omega | exact Nat.le_refl _⟩, ⟨by (with_reducible repeat (first | refine blk_drewN ?_ _ | refine blk_drew ?_ | refine blk_alloc ?_ _)); exact BK252.out⟩, ⟨by repeat (first | (with_reducible first | exact HB.out | apply below_alloc | apply pw_below_drewN | apply below_drew1 | refine below_set ?_ GE252.out) | exact HB.out)⟩⟩
                        · rw [if_neg c21] at H
                          have c21b0 : (a0.toList == ([110, 97, 110] : List UInt8)) = false := beq_eq_false_iff_ne.mpr c21
                          have c21b1 : (a0.toList != ([110, 97, 110] : List UInt8)) = true := bne_iff_ne.mpr c21
                          by_cases c22 : a0.toList = ([105, 110, 102] : List UInt8)
                          · rw [if_pos c22] at H
                            have c22b0 : (a0.toList == ([105, 110, 102] : List UInt8)) = true := beq_iff_eq.mpr c22
                            have c22b1 : (a0.toList != ([105, 110, 102] : List UInt8)) = false := bne_eq_false_iff_eq.mpr c22
                            clear c22
                            have H' := Aside0.mk H
                            clear H
                            have p16 : 0 ≤ (0 : Int) := (by omega)
                            have q16 : 0 < x4_9.size := (by have : (0 : Int) < (x4_9.size : Int) := of_decide_eq_true (by first | (with_reducible assumption) | assumption); omega)
                            have hx16 : ∀ h : 0 < x4_9.size, ((x4_9[0]'h).toNat : Int) = bt x4_9 0 := bt_at x4_9 0
                            clear p16
                            have qi16 : (0 < (x4_9.size : Int)) = True := eq_true (of_decide_eq_true (by first | (with_reducible assumption) | assumption))
                            replace q16 := eq_true q16
                            have p19 : 0 ≤ (1 : Int) := (by omega)
                            have q19 : 1 < x4_9.size := (by have : (1 : Int) < (x4_9.size : Int) := of_decide_eq_true (by first | (with_reducible assumption) | assumption); omega)
                            have hx19 : ∀ h : 1 < x4_9.size, ((x4_9[1]'h).toNat : Int) = bt x4_9 1 := bt_at x4_9 1
                            clear p19
                            have qi19 : (1 < (x4_9.size : Int)) = True := eq_true (of_decide_eq_true (by first | (with_reducible assumption) | assumption))
                            replace q19 := eq_true q19
                            go_wp2
                            go_meet
                            case rel => exact ⟨_, (true), (by first | rfl | (simp; done) | (simp [*]; done)), H', ⟨by have := HJ4.out; have := HJ9.out; first | omega | exact Nat.le_refl _⟩, ⟨by (with_reducible repeat (first | refine blk_drewN ?_ _ | refine blk_drew ?_ | refine blk_alloc ?_ _)); exact BK252.out⟩, ⟨by repeat (first | (with_reducible first | exact HB.out | apply below_alloc | apply pw_below_drewN | apply below_drew1 | refine below_set ?_ GE252.out) | exact HB.out)⟩⟩
                          · rw [if_neg c22] at H
                            have c22b0 : (a0.toList == ([105, 110, 102] : List UInt8)) = false := beq_eq_false_iff_ne.mpr c22
                            have c22b1 : (a0.toList != ([105, 110, 102] : List UInt8)) = true := bne_iff_ne.mpr c22
                            have H' := Aside0.mk H
                            clear H
                            have p16 : 0 ≤ (0 : Int) := (by omega)
                            have q16 : 0 < x4_9.size := (by have : (0 : Int) < (x4_9.size : Int) := of_decide_eq_true (by first | (with_reducible assumption) | assumption); omega)
                            have hx16 : ∀ h : 0 < x4_9.size, ((x4_9[0]'h).toNat : Int) = bt x4_9 0 := bt_at x4_9 0
                            clear p16
                            have qi16 : (0 < (x4_9.size : Int)) = True := eq_true (of_decide_eq_true (by first | (with_reducible assumption) | assumption))
                            replace q16 := eq_true q16
                            have p19 : 0 ≤ (1 : Int) := (by omega)
                            have q19 : 1 < x4_9.size := (by have : (1 : Int) < (x4_9.size : Int) := of_decide_eq_true (by first | (with_reducible assumption) | assumption); omega)
                            have hx19 : ∀ h : 1 < x4_9.size, ((x4_9[1]'h).toNat : Int) = bt x4_9 1 := bt_at x4_9 1
                            clear p19
                            have qi19 : (1 < (x4_9.size : Int)) = True := eq_true (of_decide_eq_true (by first | (with_reducible assumption) | assumption))
                            replace q19 := eq_true q19
                            go_wp2
                            go_meet
                            case rel => exact ⟨_, ((a0.toList == ([45, 105, 110, 102] : List UInt8))), (by first | rfl | (simp; done) | (simp [*]; done)), H', ⟨by have := HJ4.out; have := HJ9.out; first | omega | exact Nat.le_refl _⟩, ⟨by (with_reducible repeat (first | refine blk_drewN ?_ _ | refine blk_drew ?_ | refine blk_alloc ?_ _)); exact BK252.out⟩, ⟨by repeat (first | (with_reducible first | exact HB.out | apply below_alloc | apply pw_below_drewN | apply below_drew1 | refine below_set ?_ GE252.out) | exact HB.out)⟩⟩
                    · rw [if_neg c18] at H
                      exact absurd H (by simp)
                  · rw [if_neg c17] at H
                    have c17b0 : ((bt x4_9 0) == 48) = false := beq_eq_false_iff_ne.mpr c17
                    have c17b1 : ((bt x4_9 0) != 48) = true := bne_iff_ne.mpr c17
                    by_cases c23 : a0.toList = ([110, 97, 110] : List UInt8)
                    · rw [if_pos c23] at H
                      have c23b0 : (a0.toList == ([110, 97, 110] : List UInt8)) = true := beq_iff_eq.mpr c23
                      have c23b1 : (a0.toList != ([110, 97, 110] : List UInt8)) = false := bne_eq_false_iff_eq.mpr c23
                      clear c23
                      have H' := Aside0.mk H
                      clear H
                      have p16 : 0 ≤ (0 : Int) := (by omega)
                      have q16 : 0 < x4_9.size := (by have : (0 : Int) < (x4_9.size : Int) := of_decide_eq_true (by first | (with_reducible assumption) | assumption); omega)
                      have hx16 : ∀ h : 0 < x4_9.size, ((x4_9[0]'h).toNat : Int) = bt x4_9 0 := bt_at x4_9 0
                      clear p16
                      have qi16 : (0 < (x4_9.size : Int)) = True := eq_true (of_decide_eq_true (by first | (with_reducible assumption) | assumption))
                      replace q16 := eq_true q16
                      go_wp2
                      go_meet
                      case rel => exact ⟨_, (true), (by first | rfl | (simp; done) | (simp [*]; done)), H', ⟨by have := HJ4.out; have := HJ9.out; first | omega | exact Nat.le_refl _⟩, ⟨by (with_reducible repeat (first | refine blk_drewN ?_ _ | refine blk_drew ?_ | refine blk_alloc ?_ _)); exact BK252.out⟩, ⟨by repeat (first | (with_reducible first | exact HB.out | apply below_alloc | apply pw_below_drewN | apply below_drew1 | refine below_set ?_ GE252.out) | exact HB.out)⟩⟩
                    · rw [if_neg c23] at H
                      have c23b0 : (a0.toList == ([110, 97, 110] : List UInt8)) = false := beq_eq_false_iff_ne.mpr c23
                      have c23b1 : (a0.toList != ([110, 97, 110] : List UInt8)) = true := bne_iff_ne.mpr c23
                      by_cases c24 : a0.toList = ([105, 110, 102] : List UInt8)
                      · rw [if_pos c24] at H
                        have c24b0 : (a0.toList == ([105, 110, 102] : List UInt8)) = true := beq_iff_eq.mpr c24
                        have c24b1 : (a0.toList != ([105, 110, 102] : List UInt8)) = false := bne_eq_false_iff_eq.mpr c24
                        clear c24
                        have H' := Aside0.mk H
                        clear H
                        have p16 : 0 ≤ (0 : Int) := (by omega)
                        have q16 : 0 < x4_9.size := (by have : (0 : Int) < (x4_9.size : Int) := of_decide_eq_true (by first | (with_reducible assumption) | assumption); omega)
                        have hx16 : ∀ h : 0 < x4_9.size, ((x4_9[0]'h).toNat : Int) = bt x4_9 0 := bt_at x4_9 0
                        clear p16
                        have qi16 : (0 < (x4_9.size : Int)) = True := eq_true (of_decide_eq_true (by first | (with_reducible assumption) | assumption))
                        replace q16 := eq_true q16
                        go_wp2
                        go_meet
                        case rel => exact ⟨_, (true), (by first | rfl | (simp; done) | (simp [*]; done)), H', ⟨by have := HJ4.out; have := HJ9.out; first | omega | exact Nat.le_refl _⟩, ⟨by (with_reducible repeat (first | refine blk_drewN ?_ _ | refine blk_drew ?_ | refine blk_alloc ?_ _)); exact BK252.out⟩, ⟨by repeat (first | (with_reducible first | exact HB.out | apply below_alloc | apply pw_below_drewN | apply below_drew1 | refine below_set ?_ GE252.out) | exact HB.out)⟩⟩
                      · rw [if_neg c24] at H
                        have c24b0 : (a0.toList == ([105, 110, 102] : List UInt8)) = false := beq_eq_false_iff_ne.mpr c24
                        have c24b1 : (a0.toList != ([105, 110, 102] : List UInt8)) = true := bne_iff_ne.mpr c24
                        have H' := Aside0.mk H
                        clear H
                        have p16 : 0 ≤ (0 : Int) := (by omega)
                        have q16 : 0 < x4_9.size := (by have : (0 : Int) < (x4_9.size : Int) := of_decide_eq_true (by first | (with_reducible assumption) | assumption); omega)
                        have hx16 : ∀ h : 0 < x4_9.size, ((x4_9[0]'h).toNat : Int) = bt x4_9 0 := bt_at x4_9 0
                        clear p16
                        have qi16 : (0 < (x4_9.size : Int)) = True := eq_true (of_decide_eq_true (by first | (with_reducible assumption) | assumption))
                        replace q16 := eq_true q16
                        go_wp2
                        go_meet
                        case rel => exact ⟨_, ((a0.toList == ([45, 105, 110, 102] : List UInt8))), (by first | rfl | (simp; done) | (simp [*]; done)), H', ⟨by have := HJ4.out; have := HJ9.out; first | omega | exact Nat.le_refl _⟩, ⟨by (with_reducible repeat (first | refine blk_drewN ?_ _ | refine blk_drew ?_ | refine blk_alloc ?_ _)); exact BK252.out⟩, ⟨by repeat (first | (with_reducible first | exact HB.out | apply below_alloc | apply pw_below_drewN | apply below_drew1 | refine below_set ?_ GE252.out) | exact HB.out)⟩⟩
                · rw [if_neg c15] at H
                  exact absurd H (by simp)
              · rw [if_neg c14] at H
                have c14b0 : decide (2 ≤ (x4_9.size : Int)) = false := decide_eq_false c14
                have c14b1 : decide (2 ≤ x4_9.size) = false := decide_eq_false (by omega)
                clear c14
                (first | rw [c14b0] | (simp only [i64_w, i32_w]; rw [c14b0]) | skip)
                by_cases c25 : a0.toList = ([110, 97, 110] : List UInt8)
                · rw [if_pos c25] at H
                  have c25b0 : (a0.toList == ([110, 97, 110] : List UInt8)) = true := beq_iff_eq.mpr c25
                  have c25b1 : (a0.toList != ([110, 97, 110] : List UInt8)) = false := bne_eq_false_iff_eq.mpr c25
                  clear c25
                  have H' := Aside0.mk H
                  clear H
                  go_wp2
                  go_meet
                  case rel => exact ⟨_, (true), (by first | rfl | (simp; done) | (simp [*]; done)), H', ⟨by have := HJ4.out; have := HJ9.out; first | omega | exact Nat.le_refl _⟩, ⟨by (with_reducible repeat (first | refine blk_drewN ?_ _ | refine blk_drew ?_ | refine blk_alloc ?_ _)); exact BK252.out⟩, ⟨by repeat (first | (with_reducible first | exact HB.out | apply below_alloc | apply pw_below_drewN | apply below_drew1 | refine below_set ?_ GE252.out) | exact HB.out)⟩⟩
                · rw [if_neg c25] at H
                  have c25b0 : (a0.toList == ([110, 97, 110] : List UInt8)) = false := beq_eq_false_iff_ne.mpr c25
                  have c25b1 : (a0.toList != ([110, 97, 110] : List UInt8)) = true := bne_iff_ne.mpr c25
                  by_cases c26 : a0.toList = ([105, 110, 102] : List UInt8)
                  · rw [if_pos c26] at H
                    have c26b0 : (a0.toList == ([105, 110, 102] : List UInt8)) = true := beq_iff_eq.mpr c26
                    have c26b1 : (a0.toList != ([105, 110, 102] : List UInt8)) = false := bne_eq_false_iff_eq.mpr c26
                    clear c26
                    have H' := Aside0.mk H
                    clear H
                    go_wp2
                    go_meet
                    case rel => exact ⟨_, (true), (by first | rfl | (simp; done) | (simp [*]; done)), H', ⟨by have := HJ4.out; have := HJ9.out; first | omega | exact Nat.le_refl _⟩, ⟨by (with_reducible repeat (first | refine blk_drewN ?_ _ | refine blk_drew ?_ | refine blk_alloc ?_ _)); exact BK252.out⟩, ⟨by repeat (first | (with_reducible first | exact HB.out | apply below_alloc | apply pw_below_drewN | apply below_drew1 | refine below_set ?_ GE252.out) | exact HB.out)⟩⟩
                  · rw [if_neg c26] at H
                    have c26b0 : (a0.toList == ([105, 110, 102] : List UInt8)) = false := beq_eq_false_iff_ne.mpr c26
                    have c26b1 : (a0.toList != ([105, 110, 102] : List UInt8)) = true := bne_iff_ne.mpr c26
                    have H' := Aside0.mk H
                    clear H
                    go_wp2
                    go_meet
                    case rel => exact ⟨_, ((a0.toList == ([45, 105, 110, 102] : List UInt8))), (by first | rfl | (simp; done) | (simp [*]; done)), H', ⟨by have := HJ4.out; have := HJ9.out; first | omega | exact Nat.le_refl _⟩, ⟨by (with_reducible repeat (first | refine blk_drewN ?_ _ | refine blk_drew ?_ | refine blk_alloc ?_ _)); exact BK252.out⟩, ⟨by repeat (first | (with_reducible first | exact HB.out | apply below_alloc | apply pw_below_drewN | apply below_drew1 | refine below_set ?_ GE252.out) | exact HB.out)⟩⟩
            case rest =>
              clear HC13
              try clear c1
              try clear p1
              try clear q1
              try clear hx1
              try clear qi1
              try clear c2
              try clear c2b0
              try clear c2b1
              try clear p2
              try clear c7
              try clear c7b0
              try clear c7b1
              try clear c8
              try clear c8b0
              try clear c8b1
              try clear p9
              try clear q9
              try clear hx9
              try clear qi9
              try clear c11
              try clear c12
              try clear c12b0
              try clear c12b1
              try clear c14
              try clear c14b0
              try clear c14b1
              try clear c15
              try clear c15b0
              try clear c15b1
              try clear p16
              try clear q16
              try clear hx16
              try clear qi16
              try clear c17
              try clear c17b0
              try clear c17b1
              try clear c18
              try clear c18b0
              try clear c18b1
              try clear p19
              try clear q19
              try clear hx19
              try clear qi19
              try clear c20
              try clear c20b0
              try clear c20b1
              try clear c21
              try clear c21b0
              try clear c21b1
              try clear c22
              try clear c22b0
              try clear c22b1
              try clear c23
              try clear c23b0
              try clear c23b1
              try clear c24
              try clear c24b0
              try clear c24b1
              try clear c25
              try clear c25b0
              try clear c25b1
              try clear c26
              try clear c26b0
              try clear c26b1
              try clear hcz4_0
              try clear hcz4_1
              try clear hcz4_2
              try clear hfz4_0
              try clear hfz4_1
              try clear hfz4_2
              try clear p16
              try clear p19
              try clear p2
              try clear p9
              try clear q16
              try clear q19
              try clear q9
              obtain ⟨kq, x47_12, rfl, HA, HJ12, BK252, HB⟩ := hcut
              cases kq with
              | zero => exact absurd HA.out (by simp [casketref4_Parse.j2])
              | succ kj12 =>
                have H := HA.out
                clear HA
                simp only [casketref4_Parse.j2] at H
                by_cases c27 : x47_12 = true
                · subst c27
                  have H1 : ((casketref4_ParseFloat.f kj12 a0).bind fun bt253 => (if bt253.2 = 0 then (some (false, 0, bt253.1, 0)) else (some (false, 0, 0, bt253.2)))) = some (r1, r2, r3, r4) := by rw [if_pos rfl] at H; exact H
                  clear H
                  have H := H1
                  clear H1
                  replace H := Option.bind_eq_some_iff.mp H
                  obtain ⟨⟨t253, t254⟩, A280, H⟩ := H
                  replace H : (if t254 = 0 then (some (false, 0, t253, 0)) else (some (false, 0, 0, t254))) = some (r1, r2, r3, r4) := H
                  have A28 := Aside0.mk A280
                  clear A280
                  by_cases c29 : t254 = 0
                  · rw [if_pos c29] at H
                    have c29b0 : (t254 == 0) = true := beq_iff_eq.mpr c29
                    have c29b1 : (t254 != 0) = false := bne_eq_false_iff_eq.mpr c29
                    clear c29
                    simp only [Option.some.injEq, Prod.mk.injEq] at H
                    obtain ⟨rfl, rfl, rfl, rfl⟩ := H
                    go_wp2_with (first | ((with_reducible refine gate_callee (f := 21) rfl ?_); refine goesL_ (some 50) rfl rfl Tryd.func21 (by kernel_rfl) rfl #[.string a0] rfl (by (try simp only [List.map_toArray, List.map_cons, List.map_nil]); first | done | rfl | (simp only [List.length_drop, List.length_take]; rfl)) ?_; (with_reducible refine (casketref4_ParseFloat.calls kj12 a0 t253 t254 _ A28.out).mono ?_); rintro e w30 ⟨rfl, hb⟩; refine ⟨_, rfl, ?_⟩; have n0_ := Aside0.mk (blk_below (g := gb252) (o := .cells #[.bool false, .int .i64 0, .int .u64 0] 36 (0, 0)) (by (with_reducible repeat (first | refine blk_drewN ?_ _ | refine blk_drew ?_ | refine blk_alloc ?_ _)); exact BK252.out) hb); have n1_ := Aside0.mk (below_step (by repeat (first | (with_reducible first | exact HB.out | apply below_alloc | apply pw_below_drewN | apply below_drew1 | refine below_set ?_ GE252.out) | exact HB.out)) hb); clear BK252; clear HB; have BK252 := n0_; have HB := n1_; clear n0_ n1_; (try clear hb); (try clear hb2); (try clear hk); (try clear hi); have hcz31_0 : w30.cell? ⟨gb252, 0, none⟩ = some (.bool false) := (blk_cell BK252.out 0).trans rfl; have hcz31_1 : w30.cell? ⟨gb252, 1, none⟩ = some (.int .i64 0) := (blk_cell BK252.out 1).trans rfl; have hcz31_2 : w30.cell? ⟨gb252, 2, none⟩ = some (.int .u64 0) := (blk_cell BK252.out 2).trans rfl; have hfz31_0 := blk_frozen BK252.out 0; have hfz31_1 := blk_frozen BK252.out 1; have hfz31_2 := blk_frozen BK252.out 2))
                    refine bodyPost_ret (results_ct rfl _ _ gb252 36 #[.bool false, .int .i64 0, .int .u64 t253] (0, 0) _ rfl (by (with_reducible repeat (first | refine blk_drewN ?_ _ | refine blk_drew ?_ | refine blk_alloc ?_ _)); refine blk_put (cs := #[.bool false, .int .i64 0, .int .u64 0]) ?_ 2 _ rfl; (with_reducible repeat (first | refine blk_drewN ?_ _ | refine blk_drew ?_ | refine blk_alloc ?_ _)); refine blk_put (cs := #[.bool false, .int .i64 0, .int .u64 0]) ?_ 1 _ rfl; (with_reducible repeat (first | refine blk_drewN ?_ _ | refine blk_drew ?_ | refine blk_alloc ?_ _)); refine blk_put (cs := #[.bool false, .int .i64 0, .int .u64 0]) ?_ 0 _ rfl; (with_reducible repeat (first | refine blk_drewN ?_ _ | refine blk_drew ?_ | refine blk_alloc ?_ _)); exact BK252.out) Tryd.underlying36 rfl (by kernel_rfl)) rfl ?_
                    exact ⟨by first | rfl | (simp [errW_none, errW_some] <;> rfl) | (simp [*, errW_none, errW_some] <;> rfl), by repeat (first | (with_reducible first | exact HB.out | apply below_alloc | apply pw_below_drewN | apply below_drew1 | refine below_set ?_ GE252.out) | exact HB.out)⟩
                  · rw [if_neg c29] at H
                    have c29b0 : (t254 == 0) = false := beq_eq_false_iff_ne.mpr c29
                    have c29b1 : (t254 != 0) = true := bne_iff_ne.mpr c29
                    simp only [Option.some.injEq, Prod.mk.injEq] at H
                    obtain ⟨rfl, rfl, rfl, rfl⟩ := H
                    go_wp2_with (first | ((with_reducible refine gate_callee (f := 21) rfl ?_); refine goesL_ (some 50) rfl rfl Tryd.func21 (by kernel_rfl) rfl #[.string a0] rfl (by (try simp only [List.map_toArray, List.map_cons, List.map_nil]); first | done | rfl | (simp only [List.length_drop, List.length_take]; rfl)) ?_; (with_reducible refine (casketref4_ParseFloat.calls kj12 a0 t253 t254 _ A28.out).mono ?_); rintro e w32 ⟨rfl, hb⟩; refine ⟨_, rfl, ?_⟩; have n0_ := Aside0.mk (blk_below (g := gb252) (o := .cells #[.bool false, .int .i64 0, .int .u64 0] 36 (0, 0)) (by (with_reducible repeat (first | refine blk_drewN ?_ _ | refine blk_drew ?_ | refine blk_alloc ?_ _)); exact BK252.out) hb); have n1_ := Aside0.mk (below_step (by repeat (first | (with_reducible first | exact HB.out | apply below_alloc | apply pw_below_drewN | apply below_drew1 | refine below_set ?_ GE252.out) | exact HB.out)) hb); clear BK252; clear HB; have BK252 := n0_; have HB := n1_; clear n0_ n1_; (try clear hb); (try clear hb2); (try clear hk); (try clear hi); have hcz33_0 : w32.cell? ⟨gb252, 0, none⟩ = some (.bool false) := (blk_cell BK252.out 0).trans rfl; have hcz33_1 : w32.cell? ⟨gb252, 1, none⟩ = some (.int .i64 0) := (blk_cell BK252.out 1).trans rfl; have hcz33_2 : w32.cell? ⟨gb252, 2, none⟩ = some (.int .u64 0) := (blk_cell BK252.out 2).trans rfl; have hfz33_0 := blk_frozen BK252.out 0; have hfz33_1 := blk_frozen BK252.out 1; have hfz33_2 := blk_frozen BK252.out 2))
                    refine bodyPost_ret (results_ct rfl _ _ gb252 36 #[.bool false, .int .i64 0, .int .u64 0] (0, 0) _ rfl (by (with_reducible repeat (first | refine blk_drewN ?_ _ | refine blk_drew ?_ | refine blk_alloc ?_ _)); refine blk_put (cs := #[.bool false, .int .i64 0, .int .u64 0]) ?_ 2 _ rfl; (with_reducible repeat (first | refine blk_drewN ?_ _ | refine blk_drew ?_ | refine blk_alloc ?_ _)); refine blk_put (cs := #[.bool false, .int .i64 0, .int .u64 0]) ?_ 1 _ rfl; (with_reducible repeat (first | refine blk_drewN ?_ _ | refine blk_drew ?_ | refine blk_alloc ?_ _)); refine blk_put (cs := #[.bool false, .int .i64 0, .int .u64 0]) ?_ 0 _ rfl; (with_reducible repeat (first | refine blk_drewN ?_ _ | refine blk_drew ?_ | refine blk_alloc ?_ _)); exact BK252.out) Tryd.underlying36 rfl (by kernel_rfl)) rfl ?_
                    exact ⟨by first | rfl | (simp [errW_none, errW_some] <;> rfl) | (simp [*, errW_none, errW_some] <;> rfl), by repeat (first | (with_reducible first | exact HB.out | apply below_alloc | apply pw_below_drewN | apply below_drew1 | refine below_set ?_ GE252.out) | exact HB.out)⟩
                · replace c27 := Bool.eq_false_iff.mpr c27
                  subst c27
                  have H1 : ((casketref4_ParseInt.f kj12 a0).bind fun bt255 => (if bt255.2 = 0 then (some (true, bt255.1, 0, 0)) else (some (false, 0, 0, bt255.2)))) = some (r1, r2, r3, r4) := by rw [if_neg (show ¬ (false = true) by decide)] at H; exact H
                  clear H
                  have H := H1
                  clear H1
                  replace H := Option.bind_eq_some_iff.mp H
                  obtain ⟨⟨t255, t256⟩, A340, H⟩ := H
                  replace H : (if t256 = 0 then (some (true, t255, 0, 0)) else (some (false, 0, 0, t256))) = some (r1, r2, r3, r4) := H
                  have A34 := Aside0.mk A340
                  clear A340
                  by_cases c35 : t256 = 0
                  · rw [if_pos c35] at H
                    have c35b0 : (t256 == 0) = true := beq_iff_eq.mpr c35
                    have c35b1 : (t256 != 0) = false := bne_eq_false_iff_eq.mpr c35
                    clear c35
                    simp only [Option.some.injEq, Prod.mk.injEq] at H
                    obtain ⟨rfl, rfl, rfl, rfl⟩ := H
                    go_wp2_with (first | ((with_reducible refine gate_callee (f := 20) rfl ?_); refine goesL_ (some 61) rfl rfl Tryd.func20 (by kernel_rfl) rfl #[.string a0] rfl (by (try simp only [List.map_toArray, List.map_cons, List.map_nil]); first | done | rfl | (simp only [List.length_drop, List.length_take]; rfl)) ?_; (with_reducible refine (casketref4_ParseInt.calls kj12 a0 t255 t256 _ A34.out).mono ?_); rintro e w' ⟨rfl, ⟨nd, rfl⟩⟩; refine ⟨_, rfl, ?_⟩; (try (rw [drewN_self wc]; generalize hq_ : World.drewN wc _ = wc; have n0_ : Aside0 (wc.heap[gb252]? = some (.cells #[.bool false, .int .i64 0, .int .u64 0] 36 (0, 0))) := ⟨by rw [← hq_]; exact (by (with_reducible repeat (first | refine blk_drewN ?_ _ | refine blk_drew ?_ | refine blk_alloc ?_ _)); exact BK252.out)⟩; have n1_ : Aside0 (Below w.heap.size w wc) := ⟨by rw [← hq_]; exact (by repeat (first | (with_reducible first | exact HB.out | apply below_alloc | apply pw_below_drewN | apply below_drew1 | refine below_set ?_ GE252.out) | exact HB.out))⟩; clear BK252 HB hq_; have BK252 := n0_; have HB := n1_; clear n0_ n1_)); have hcz36_0 : wc.cell? ⟨gb252, 0, none⟩ = some (.bool false) := (blk_cell BK252.out 0).trans rfl; have hcz36_1 : wc.cell? ⟨gb252, 1, none⟩ = some (.int .i64 0) := (blk_cell BK252.out 1).trans rfl; have hcz36_2 : wc.cell? ⟨gb252, 2, none⟩ = some (.int .u64 0) := (blk_cell BK252.out 2).trans rfl; have hfz36_0 := blk_frozen BK252.out 0; have hfz36_1 := blk_frozen BK252.out 1; have hfz36_2 := blk_frozen BK252.out 2))
                    refine bodyPost_ret (results_ct rfl _ _ gb252 36 #[.bool true, .int .i64 t255, .int .u64 0] (0, 0) _ rfl (by (with_reducible repeat (first | refine blk_drewN ?_ _ | refine blk_drew ?_ | refine blk_alloc ?_ _)); refine blk_put (cs := #[.bool true, .int .i64 t255, .int .u64 0]) ?_ 2 _ rfl; (with_reducible repeat (first | refine blk_drewN ?_ _ | refine blk_drew ?_ | refine blk_alloc ?_ _)); refine blk_put (cs := #[.bool true, .int .i64 0, .int .u64 0]) ?_ 1 _ rfl; (with_reducible repeat (first | refine blk_drewN ?_ _ | refine blk_drew ?_ | refine blk_alloc ?_ _)); refine blk_put (cs := #[.bool false, .int .i64 0, .int .u64 0]) ?_ 0 _ rfl; (with_reducible repeat (first | refine blk_drewN ?_ _ | refine blk_drew ?_ | refine blk_alloc ?_ _)); exact BK252.out) Tryd.underlying36 rfl (by kernel_rfl)) rfl ?_
                    exact ⟨by first | rfl | (simp [errW_none, errW_some] <;> rfl) | (simp [*, errW_none, errW_some] <;> rfl), by repeat (first | (with_reducible first | exact HB.out | apply below_alloc | apply pw_below_drewN | apply below_drew1 | refine below_set ?_ GE252.out) | exact HB.out)⟩
                  · rw [if_neg c35] at H
                    have c35b0 : (t256 == 0) = false := beq_eq_false_iff_ne.mpr c35
                    have c35b1 : (t256 != 0) = true := bne_iff_ne.mpr c35
                    simp only [Option.some.injEq, Prod.mk.injEq] at H
                    obtain ⟨rfl, rfl, rfl, rfl⟩ := H
                    go_wp2_with (first | ((with_reducible refine gate_callee (f := 20) rfl ?_); refine goesL_ (some 61) rfl rfl Tryd.func20 (by kernel_rfl) rfl #[.string a0] rfl (by (try simp only [List.map_toArray, List.map_cons, List.map_nil]); first | done | rfl | (simp only [List.length_drop, List.length_take]; rfl)) ?_; (with_reducible refine (casketref4_ParseInt.calls kj12 a0 t255 t256 _ A34.out).mono ?_); rintro e w' ⟨rfl, ⟨nd, rfl⟩⟩; refine ⟨_, rfl, ?_⟩; (try (rw [drewN_self wc]; generalize hq_ : World.drewN wc _ = wc; have n0_ : Aside0 (wc.heap[gb252]? = some (.cells #[.bool false, .int .i64 0, .int .u64 0] 36 (0, 0))) := ⟨by rw [← hq_]; exact (by (with_reducible repeat (first | refine blk_drewN ?_ _ | refine blk_drew ?_ | refine blk_alloc ?_ _)); exact BK252.out)⟩; have n1_ : Aside0 (Below w.heap.size w wc) := ⟨by rw [← hq_]; exact (by repeat (first | (with_reducible first | exact HB.out | apply below_alloc | apply pw_below_drewN | apply below_drew1 | refine below_set ?_ GE252.out) | exact HB.out))⟩; clear BK252 HB hq_; have BK252 := n0_; have HB := n1_; clear n0_ n1_)); have hcz37_0 : wc.cell? ⟨gb252, 0, none⟩ = some (.bool false) := (blk_cell BK252.out 0).trans rfl; have hcz37_1 : wc.cell? ⟨gb252, 1, none⟩ = some (.int .i64 0) := (blk_cell BK252.out 1).trans rfl; have hcz37_2 : wc.cell? ⟨gb252, 2, none⟩ = some (.int .u64 0) := (blk_cell BK252.out 2).trans rfl; have hfz37_0 := blk_frozen BK252.out 0; have hfz37_1 := blk_frozen BK252.out 1; have hfz37_2 := blk_frozen BK252.out 2))
                    refine bodyPost_ret (results_ct rfl _ _ gb252 36 #[.bool false, .int .i64 0, .int .u64 0] (0, 0) _ rfl (by (with_reducible repeat (first | refine blk_drewN ?_ _ | refine blk_drew ?_ | refine blk_alloc ?_ _)); refine blk_put (cs := #[.bool false, .int .i64 0, .int .u64 0]) ?_ 2 _ rfl; (with_reducible repeat (first | refine blk_drewN ?_ _ | refine blk_drew ?_ | refine blk_alloc ?_ _)); refine blk_put (cs := #[.bool false, .int .i64 0, .int .u64 0]) ?_ 1 _ rfl; (with_reducible repeat (first | refine blk_drewN ?_ _ | refine blk_drew ?_ | refine blk_alloc ?_ _)); refine blk_put (cs := #[.bool false, .int .i64 0, .int .u64 0]) ?_ 0 _ rfl; (with_reducible repeat (first | refine blk_drewN ?_ _ | refine blk_drew ?_ | refine blk_alloc ?_ _)); exact BK252.out) Tryd.underlying36 rfl (by kernel_rfl)) rfl ?_
                    exact ⟨by first | rfl | (simp [errW_none, errW_some] <;> rfl) | (simp [*, errW_none, errW_some] <;> rfl), by repeat (first | (with_reducible first | exact HB.out | apply below_alloc | apply pw_below_drewN | apply below_drew1 | refine below_set ?_ GE252.out) | exact HB.out)⟩

end Go.Proofs.YtjdnneomkocghaaDoor.Print
