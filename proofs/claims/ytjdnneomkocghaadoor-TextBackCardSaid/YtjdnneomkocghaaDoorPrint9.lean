-- Written by a program of this session (wip/tools/myprint.py, over the kit's print.py). Not trusted: Lean checks it.
import Derived.Test.YtjdnneomkocghaaDoorPrint0
namespace Go.Proofs.YtjdnneomkocghaaDoor.Print
open Go.RowKit Go.Proofs.YtjdnneomkocghaaDoor.Given Go.Proofs.YtjdnneomkocghaaDoorW.PrintWords Go.Proofs.YtjdnneomkocghaaDoorW.PrintLast Go.Proofs.YtjdnneomkocghaaDoorW.PrintMore
attribute [local go_sem] max2_int min2_int max_two min_two max_three min_three max_four min_four   -- for this text's walks alone
set_option linter.unusedVariables false
set_option linter.unusedSimpArgs false

/-! ### casketref4_ParseInt: function 20 -/
mutual
def casketref4_ParseInt.j0 : Nat → ByteArray → Bool → Option (Int × Int)
  | 0, _, _ => none
  | k + 1, x0, x4 => if x4 = true then (if 1 ≤ (x0.size : Int) then (casketref4_ParseInt.j1 k x4 (x0.extract 1 x0.size)) else (none)) else (casketref4_ParseInt.j1 k x4 x0)
def casketref4_ParseInt.j1 : Nat → Bool → ByteArray → Option (Int × Int)
  | 0, _, _ => none
  | k + 1, x4, x5 => if x5.toList = ([] : List UInt8) then (casketref4_ParseInt.j2 k x4 x5 true) else (if 0 < (x5.size : Int) then (if (bt x5 0) = 48 then (if (x5.size : Int) > 1 then (casketref4_ParseInt.j2 k x4 x5 true) else (casketref4_ParseInt.j2 k x4 x5 x4)) else (casketref4_ParseInt.j2 k x4 x5 false)) else (none))
def casketref4_ParseInt.j2 : Nat → Bool → ByteArray → Bool → Option (Int × Int)
  | 0, _, _, _ => none
  | k + 1, x4, x5, x38 => if x38 = true then (some (0, 20)) else (casketref4_ParseInt.l0 k x4 x5 0 false 0)
def casketref4_ParseInt.l0 : Nat → Bool → ByteArray → Int → Bool → Int → Option (Int × Int)
  | 0, _, _, _, _, _ => none
  | k + 1, x4, x5, x6, x7, x8 => if x8 < (x5.size : Int) then (if 0 ≤ x8 then (if (bt x5 x8) < 48 then (casketref4_ParseInt.j4 k x4 x5 x6 x7 x8 true) else (casketref4_ParseInt.j4 k x4 x5 x6 x7 x8 (decide ((bt x5 x8) > 57)))) else (none)) else (if x7 = true then (casketref4_ParseInt.j5 k x4 x6 true) else (if x4 = true then (casketref4_ParseInt.j5 k x4 x6 false) else (casketref4_ParseInt.j5 k x4 x6 (x6 == 9223372036854775808))))
def casketref4_ParseInt.j4 : Nat → Bool → ByteArray → Int → Bool → Int → Bool → Option (Int × Int)
  | 0, _, _, _, _, _, _ => none
  | k + 1, x4, x5, x6, x7, x8, x54 => if x54 = true then (some (0, 20)) else (if 0 ≤ x8 then (if x8 < (x5.size : Int) then (if x7 = true then (casketref4_ParseInt.l0 k x4 x5 x6 true (wrap64 (x8 + 1))) else (if x6 > ((9223372036854775808 - (((bt x5 x8) - 48) % 256)) / 10) then (casketref4_ParseInt.l0 k x4 x5 x6 true (wrap64 (x8 + 1))) else (casketref4_ParseInt.l0 k x4 x5 (IntKind.u64.wrap ((IntKind.u64.wrap (10 * x6)) + (((bt x5 x8) - 48) % 256))) x7 (wrap64 (x8 + 1))))) else (none)) else (none))
def casketref4_ParseInt.j5 : Nat → Bool → Int → Bool → Option (Int × Int)
  | 0, _, _, _ => none
  | k + 1, x4, x6, x80 => if x80 = true then (some (0, 13)) else (if x4 = true then (some (wrap64 ((wrap64 (-(wrap64 (IntKind.u64.wrap (x6 - 1))))) - 1), 0)) else (some (wrap64 (x6), 0)))
end
def casketref4_ParseInt.f (k : Nat) (a0 : ByteArray) : Option (Int × Int) := if (a0.size : Int) > 64 then (some (0, 2)) else (if a0.toList = ([] : List UInt8) then (casketref4_ParseInt.j0 k a0 false) else (if 0 < (a0.size : Int) then (casketref4_ParseInt.j0 k a0 ((bt a0 0) == 45)) else (none)))
theorem casketref4_ParseInt.mono_l : ∀ k, (∀ y0 y1, LeO (casketref4_ParseInt.j0 k y0 y1) (casketref4_ParseInt.j0 (k + 1) y0 y1)) ∧ (∀ y0 y1, LeO (casketref4_ParseInt.j1 k y0 y1) (casketref4_ParseInt.j1 (k + 1) y0 y1)) ∧ (∀ y0 y1 y2, LeO (casketref4_ParseInt.j2 k y0 y1 y2) (casketref4_ParseInt.j2 (k + 1) y0 y1 y2)) ∧ (∀ y0 y1 y2 y3 y4, LeO (casketref4_ParseInt.l0 k y0 y1 y2 y3 y4) (casketref4_ParseInt.l0 (k + 1) y0 y1 y2 y3 y4)) ∧ (∀ y0 y1 y2 y3 y4 y5, LeO (casketref4_ParseInt.j4 k y0 y1 y2 y3 y4 y5) (casketref4_ParseInt.j4 (k + 1) y0 y1 y2 y3 y4 y5)) ∧ (∀ y0 y1 y2, LeO (casketref4_ParseInt.j5 k y0 y1 y2) (casketref4_ParseInt.j5 (k + 1) y0 y1 y2))
  | 0 => ⟨fun _ _ r h => by simp [casketref4_ParseInt.j0] at h, fun _ _ r h => by simp [casketref4_ParseInt.j1] at h, fun _ _ _ r h => by simp [casketref4_ParseInt.j2] at h, fun _ _ _ _ _ r h => by simp [casketref4_ParseInt.l0] at h, fun _ _ _ _ _ _ r h => by simp [casketref4_ParseInt.j4] at h, fun _ _ _ r h => by simp [casketref4_ParseInt.j5] at h⟩
  | k + 1 => by
    obtain ⟨ih0, ih1, ih2, ih3, ih4, ih5⟩ := casketref4_ParseInt.mono_l k
    refine ⟨?_, ?_, ?_, ?_, ?_, ?_⟩
    · intro y0 y1
      unfold casketref4_ParseInt.j0
      repeat' first
      | (with_reducible exact ih0 _ _)
      | (with_reducible exact ih1 _ _)
      | (with_reducible exact ih2 _ _ _)
      | (with_reducible exact ih3 _ _ _ _ _)
      | (with_reducible exact ih4 _ _ _ _ _ _)
      | (with_reducible exact ih5 _ _ _)
      | (with_reducible exact LeO.refl _)
      | (with_reducible exact LeO.none _)
      | (with_reducible refine LeO.ite ?_ ?_)
      | (with_reducible refine LeO.bind ?_ (fun _ => ?_))
      | exact ih0 _ _
      | exact ih1 _ _
      | exact ih2 _ _ _
      | exact ih3 _ _ _ _ _
      | exact ih4 _ _ _ _ _ _
      | exact ih5 _ _ _
      | exact LeO.none _
      | refine LeO.ite ?_ ?_
      | refine LeO.bind ?_ (fun _ => ?_)
    · intro y0 y1
      unfold casketref4_ParseInt.j1
      repeat' first
      | (with_reducible exact ih0 _ _)
      | (with_reducible exact ih1 _ _)
      | (with_reducible exact ih2 _ _ _)
      | (with_reducible exact ih3 _ _ _ _ _)
      | (with_reducible exact ih4 _ _ _ _ _ _)
      | (with_reducible exact ih5 _ _ _)
      | (with_reducible exact LeO.refl _)
      | (with_reducible exact LeO.none _)
      | (with_reducible refine LeO.ite ?_ ?_)
      | (with_reducible refine LeO.bind ?_ (fun _ => ?_))
      | exact ih0 _ _
      | exact ih1 _ _
      | exact ih2 _ _ _
      | exact ih3 _ _ _ _ _
      | exact ih4 _ _ _ _ _ _
      | exact ih5 _ _ _
      | exact LeO.none _
      | refine LeO.ite ?_ ?_
      | refine LeO.bind ?_ (fun _ => ?_)
    · intro y0 y1 y2
      unfold casketref4_ParseInt.j2
      repeat' first
      | (with_reducible exact ih0 _ _)
      | (with_reducible exact ih1 _ _)
      | (with_reducible exact ih2 _ _ _)
      | (with_reducible exact ih3 _ _ _ _ _)
      | (with_reducible exact ih4 _ _ _ _ _ _)
      | (with_reducible exact ih5 _ _ _)
      | (with_reducible exact LeO.refl _)
      | (with_reducible exact LeO.none _)
      | (with_reducible refine LeO.ite ?_ ?_)
      | (with_reducible refine LeO.bind ?_ (fun _ => ?_))
      | exact ih0 _ _
      | exact ih1 _ _
      | exact ih2 _ _ _
      | exact ih3 _ _ _ _ _
      | exact ih4 _ _ _ _ _ _
      | exact ih5 _ _ _
      | exact LeO.none _
      | refine LeO.ite ?_ ?_
      | refine LeO.bind ?_ (fun _ => ?_)
    · intro y0 y1 y2 y3 y4
      unfold casketref4_ParseInt.l0
      repeat' first
      | (with_reducible exact ih0 _ _)
      | (with_reducible exact ih1 _ _)
      | (with_reducible exact ih2 _ _ _)
      | (with_reducible exact ih3 _ _ _ _ _)
      | (with_reducible exact ih4 _ _ _ _ _ _)
      | (with_reducible exact ih5 _ _ _)
      | (with_reducible exact LeO.refl _)
      | (with_reducible exact LeO.none _)
      | (with_reducible refine LeO.ite ?_ ?_)
      | (with_reducible refine LeO.bind ?_ (fun _ => ?_))
      | exact ih0 _ _
      | exact ih1 _ _
      | exact ih2 _ _ _
      | exact ih3 _ _ _ _ _
      | exact ih4 _ _ _ _ _ _
      | exact ih5 _ _ _
      | exact LeO.none _
      | refine LeO.ite ?_ ?_
      | refine LeO.bind ?_ (fun _ => ?_)
    · intro y0 y1 y2 y3 y4 y5
      unfold casketref4_ParseInt.j4
      repeat' first
      | (with_reducible exact ih0 _ _)
      | (with_reducible exact ih1 _ _)
      | (with_reducible exact ih2 _ _ _)
      | (with_reducible exact ih3 _ _ _ _ _)
      | (with_reducible exact ih4 _ _ _ _ _ _)
      | (with_reducible exact ih5 _ _ _)
      | (with_reducible exact LeO.refl _)
      | (with_reducible exact LeO.none _)
      | (with_reducible refine LeO.ite ?_ ?_)
      | (with_reducible refine LeO.bind ?_ (fun _ => ?_))
      | exact ih0 _ _
      | exact ih1 _ _
      | exact ih2 _ _ _
      | exact ih3 _ _ _ _ _
      | exact ih4 _ _ _ _ _ _
      | exact ih5 _ _ _
      | exact LeO.none _
      | refine LeO.ite ?_ ?_
      | refine LeO.bind ?_ (fun _ => ?_)
    · intro y0 y1 y2
      unfold casketref4_ParseInt.j5
      repeat' first
      | (with_reducible exact ih0 _ _)
      | (with_reducible exact ih1 _ _)
      | (with_reducible exact ih2 _ _ _)
      | (with_reducible exact ih3 _ _ _ _ _)
      | (with_reducible exact ih4 _ _ _ _ _ _)
      | (with_reducible exact ih5 _ _ _)
      | (with_reducible exact LeO.refl _)
      | (with_reducible exact LeO.none _)
      | (with_reducible refine LeO.ite ?_ ?_)
      | (with_reducible refine LeO.bind ?_ (fun _ => ?_))
      | exact ih0 _ _
      | exact ih1 _ _
      | exact ih2 _ _ _
      | exact ih3 _ _ _ _ _
      | exact ih4 _ _ _ _ _ _
      | exact ih5 _ _ _
      | exact LeO.none _
      | refine LeO.ite ?_ ?_
      | refine LeO.bind ?_ (fun _ => ?_)
theorem casketref4_ParseInt.mono : ∀ a0 k, LeO (casketref4_ParseInt.f k a0) (casketref4_ParseInt.f (k + 1) a0) := by
  intro a0 k
  obtain ⟨ih0, ih1, ih2, ih3, ih4, ih5⟩ := casketref4_ParseInt.mono_l k
  unfold casketref4_ParseInt.f
  repeat' first
      | (with_reducible exact ih0 _ _)
      | (with_reducible exact ih1 _ _)
      | (with_reducible exact ih2 _ _ _)
      | (with_reducible exact ih3 _ _ _ _ _)
      | (with_reducible exact ih4 _ _ _ _ _ _)
      | (with_reducible exact ih5 _ _ _)
      | (with_reducible exact LeO.refl _)
      | (with_reducible exact LeO.none _)
      | (with_reducible refine LeO.ite ?_ ?_)
      | (with_reducible refine LeO.bind ?_ (fun _ => ?_))
      | exact ih0 _ _
      | exact ih1 _ _
      | exact ih2 _ _ _
      | exact ih3 _ _ _ _ _
      | exact ih4 _ _ _ _ _ _
      | exact ih5 _ _ _
      | exact LeO.none _
      | refine LeO.ite ?_ ?_
      | refine LeO.bind ?_ (fun _ => ?_)
set_option maxHeartbeats 8000000 in
set_option maxRecDepth 100000 in
theorem casketref4_ParseInt.calls (k : Nat) (a0 : ByteArray) (r1 : Int) (r2 : Int) (w : World) (h : casketref4_ParseInt.f k a0 = some (r1, r2)) :
    Calls Tryd.prog 20 #[.string a0] w fun e w' => e = .returned (.tuple #[.int .i64 r1, .int .i64 r2]) ∧ Drawn0 w w' := by
  have H : (if (a0.size : Int) > 64 then (some (0, 2)) else (if a0.toList = ([] : List UInt8) then (casketref4_ParseInt.j0 k a0 false) else (if 0 < (a0.size : Int) then (casketref4_ParseInt.j0 k a0 ((bt a0 0) == 45)) else (none)))) = some (r1, r2) := h
  clear h
  by_cases c2 : (a0.size : Int) > 64
  · rw [if_pos c2] at H
    have c2b0 : decide (64 < (a0.size : Int)) = true := decide_eq_true c2
    have c2b1 : decide (64 < a0.size) = true := decide_eq_true (by omega)
    clear c2
    simp only [Option.some.injEq, Prod.mk.injEq] at H
    obtain ⟨rfl, rfl⟩ := H
    go_enter Tryd.func20, Tryd.ntmps20
    go_wp2
    go_ret2
    exact ⟨by first | rfl | (simp; done) | (simp [*]; done), by repeat (first | exact Drawn0.refl _ | apply Drawn0.step)⟩
  · rw [if_neg c2] at H
    have c2b0 : decide (64 < (a0.size : Int)) = false := decide_eq_false c2
    have c2b1 : decide (64 < a0.size) = false := decide_eq_false (by omega)
    clear c2
    have HC3 := Aside0.mk H
    clear H
    go_enter Tryd.func20, Tryd.ntmps20
    go_upto_region 3 with (fail)
    go_cut [4] (fun v4 wc => ∃ (kq : Nat) (x4_2 : Bool), v4 = .bool x4_2 ∧ Aside0 (casketref4_ParseInt.j0 kq a0 x4_2 = some (r1, r2)) ∧ Aside0 (kq ≤ k) ∧ Drawn0 w wc)
    case first =>
      have H := HC3.out
      clear HC3
      by_cases c4 : a0.toList = ([] : List UInt8)
      · rw [if_pos c4] at H
        have c4b0 : (a0.toList == ([] : List UInt8)) = true := beq_iff_eq.mpr c4
        have c4b1 : (a0.toList != ([] : List UInt8)) = false := bne_eq_false_iff_eq.mpr c4
        clear c4
        (first | rw [c4b0] | (simp only [i64_w, i32_w]; rw [c4b0]) | skip)
        have H' := Aside0.mk H
        clear H
        go_wp2
        go_meet
        case rel => exact ⟨_, (false), (by first | rfl | (simp; done) | (simp [*]; done)), H', ⟨by first | omega | exact Nat.le_refl _⟩, by repeat (first | exact Drawn0.refl _ | apply Drawn0.step)⟩
      · rw [if_neg c4] at H
        have c4b0 : (a0.toList == ([] : List UInt8)) = false := beq_eq_false_iff_ne.mpr c4
        have c4b1 : (a0.toList != ([] : List UInt8)) = true := bne_iff_ne.mpr c4
        (first | rw [c4b0] | (simp only [i64_w, i32_w]; rw [c4b0]) | skip)
        by_cases c5 : 0 < (a0.size : Int)
        · rw [if_pos c5] at H
          have c5b0 : decide (0 < (a0.size : Int)) = true := decide_eq_true c5
          have c5b1 : decide (0 < a0.size) = true := decide_eq_true (by omega)
          clear c5
          have H' := Aside0.mk H
          clear H
          have p6 : 0 ≤ (0 : Int) := (by omega)
          have q6 : 0 < a0.size := (by have : (0 : Int) < (a0.size : Int) := of_decide_eq_true (by first | (with_reducible assumption) | assumption); omega)
          have hx6 : ∀ h : 0 < a0.size, ((a0[0]'h).toNat : Int) = bt a0 0 := bt_at a0 0
          clear p6
          have qi6 : (0 < (a0.size : Int)) = True := eq_true (of_decide_eq_true (by first | (with_reducible assumption) | assumption))
          replace q6 := eq_true q6
          go_wp2
          go_meet
          case rel => exact ⟨_, (((bt a0 0) == 45)), (by first | rfl | (simp; done) | (simp [*]; done)), H', ⟨by first | omega | exact Nat.le_refl _⟩, by repeat (first | exact Drawn0.refl _ | apply Drawn0.step)⟩
        · rw [if_neg c5] at H
          exact absurd H (by simp)
    case rest =>
      clear HC3
      try clear c2
      try clear c2b0
      try clear c2b1
      try clear p2
      try clear c4
      try clear c4b0
      try clear c4b1
      try clear c5
      try clear c5b0
      try clear c5b1
      try clear p6
      try clear q6
      try clear hx6
      try clear qi6
      try clear p6
      try clear q6
      obtain ⟨kq, x4_2, rfl, HA, HJ2, ⟨mc2, rfl⟩⟩ := hcut
      cases kq with
      | zero => exact absurd HA.out (by simp [casketref4_ParseInt.j0])
      | succ kj2 =>
        have H := HA.out
        clear HA
        simp only [casketref4_ParseInt.j0] at H
        have HC7 := Aside0.mk H
        clear H
        go_upto_if 21 with (fail)
        go_cut [5] (fun v5 wc => ∃ (kq : Nat) (x5_6 : ByteArray), v5 = .string x5_6 ∧ Aside0 (casketref4_ParseInt.j1 kq x4_2 x5_6 = some (r1, r2)) ∧ Aside0 (kq ≤ kj2) ∧ Drawn0 w wc)
        case first =>
          have H := HC7.out
          clear HC7
          by_cases c8 : x4_2 = true
          · subst c8
            have H1 : (if 1 ≤ (a0.size : Int) then (casketref4_ParseInt.j1 kj2 true (a0.extract 1 a0.size)) else (none)) = some (r1, r2) := by rw [if_pos rfl] at H; exact H
            clear H
            have H := H1
            clear H1
            by_cases c9 : 1 ≤ (a0.size : Int)
            · rw [if_pos c9] at H
              have c9b0 := eq_true c9
              have c9b1 : decide (1 ≤ (a0.size : Int)) = true := decide_eq_true c9
              clear c9
              have H' := Aside0.mk H
              clear H
              go_wp2
              go_meet
              case rel => exact ⟨_, (a0.extract 1 a0.size), (by first | rfl | (simp; done) | (simp [*]; done)), H', ⟨by have := HJ2.out; first | omega | exact Nat.le_refl _⟩, by repeat (first | exact Drawn0.refl _ | apply Drawn0.step)⟩
            · rw [if_neg c9] at H
              exact absurd H (by simp)
          · replace c8 := Bool.eq_false_iff.mpr c8
            subst c8
            have H1 : (casketref4_ParseInt.j1 kj2 false a0) = some (r1, r2) := by rw [if_neg (show ¬ (false = true) by decide)] at H; exact H
            clear H
            have H := H1
            clear H1
            have H' := Aside0.mk H
            clear H
            go_wp2
            go_meet
            case rel => exact ⟨_, (a0), (by first | rfl | (simp; done) | (simp [*]; done)), H', ⟨by have := HJ2.out; first | omega | exact Nat.le_refl _⟩, by repeat (first | exact Drawn0.refl _ | apply Drawn0.step)⟩
        case rest =>
          clear HC7
          try clear c2
          try clear c2b0
          try clear c2b1
          try clear p2
          try clear c4
          try clear c4b0
          try clear c4b1
          try clear c5
          try clear c5b0
          try clear c5b1
          try clear p6
          try clear q6
          try clear hx6
          try clear qi6
          try clear c8
          try clear c9
          try clear c9b0
          try clear c9b1
          try clear p2
          try clear p6
          try clear q6
          obtain ⟨kq, x5_6, rfl, HA, HJ6, ⟨mc6, rfl⟩⟩ := hcut
          cases kq with
          | zero => exact absurd HA.out (by simp [casketref4_ParseInt.j1])
          | succ kj6 =>
            have H := HA.out
            clear HA
            simp only [casketref4_ParseInt.j1] at H
            have HC10 := Aside0.mk H
            clear H
            go_upto_region 7 with (fail)
            go_cut [38] (fun v38 wc => ∃ (kq : Nat) (x38_9 : Bool), v38 = .bool x38_9 ∧ Aside0 (casketref4_ParseInt.j2 kq x4_2 x5_6 x38_9 = some (r1, r2)) ∧ Aside0 (kq ≤ kj6) ∧ Drawn0 w wc)
            case first =>
              have H := HC10.out
              clear HC10
              by_cases c11 : x5_6.toList = ([] : List UInt8)
              · rw [if_pos c11] at H
                have c11b0 : (x5_6.toList == ([] : List UInt8)) = true := beq_iff_eq.mpr c11
                have c11b1 : (x5_6.toList != ([] : List UInt8)) = false := bne_eq_false_iff_eq.mpr c11
                clear c11
                (first | rw [c11b0] | (simp only [i64_w, i32_w]; rw [c11b0]) | skip)
                have H' := Aside0.mk H
                clear H
                go_wp2
                go_meet
                case rel => exact ⟨_, (true), (by first | rfl | (simp; done) | (simp [*]; done)), H', ⟨by have := HJ2.out; have := HJ6.out; first | omega | exact Nat.le_refl _⟩, by repeat (first | exact Drawn0.refl _ | apply Drawn0.step)⟩
              · rw [if_neg c11] at H
                have c11b0 : (x5_6.toList == ([] : List UInt8)) = false := beq_eq_false_iff_ne.mpr c11
                have c11b1 : (x5_6.toList != ([] : List UInt8)) = true := bne_iff_ne.mpr c11
                (first | rw [c11b0] | (simp only [i64_w, i32_w]; rw [c11b0]) | skip)
                by_cases c12 : 0 < (x5_6.size : Int)
                · rw [if_pos c12] at H
                  have c12b0 : decide (0 < (x5_6.size : Int)) = true := decide_eq_true c12
                  have c12b1 : decide (0 < x5_6.size) = true := decide_eq_true (by omega)
                  clear c12
                  by_cases c14 : (bt x5_6 0) = 48
                  · rw [if_pos c14] at H
                    have c14b0 : ((bt x5_6 0) == 48) = true := beq_iff_eq.mpr c14
                    have c14b1 : ((bt x5_6 0) != 48) = false := bne_eq_false_iff_eq.mpr c14
                    clear c14
                    by_cases c15 : (x5_6.size : Int) > 1
                    · rw [if_pos c15] at H
                      have c15b0 : decide (1 < (x5_6.size : Int)) = true := decide_eq_true c15
                      have c15b1 : decide (1 < x5_6.size) = true := decide_eq_true (by omega)
                      clear c15
                      have H' := Aside0.mk H
                      clear H
                      have p13 : 0 ≤ (0 : Int) := (by omega)
                      have q13 : 0 < x5_6.size := (by have : (0 : Int) < (x5_6.size : Int) := of_decide_eq_true (by first | (with_reducible assumption) | assumption); omega)
                      have hx13 : ∀ h : 0 < x5_6.size, ((x5_6[0]'h).toNat : Int) = bt x5_6 0 := bt_at x5_6 0
                      clear p13
                      have qi13 : (0 < (x5_6.size : Int)) = True := eq_true (of_decide_eq_true (by first | (with_reducible assumption) | assumption))
                      replace q13 := eq_true q13
                      go_wp2
                      go_meet
                      case rel => exact ⟨_, (true), (by first | rfl | (simp; done) | (simp [*]; done)), H', ⟨by have := HJ2.out; have := HJ6.out; first | omega | exact Nat.le_refl _⟩, by repeat (first | exact Drawn0.refl _ | apply Drawn0.step)⟩
                    · rw [if_neg c15] at H
                      have c15b0 : decide (1 < (x5_6.size : Int)) = false := decide_eq_false c15
                      have c15b1 : decide (1 < x5_6.size) = false := decide_eq_false (by omega)
                      clear c15
                      have H' := Aside0.mk H
                      clear H
                      have p13 : 0 ≤ (0 : Int) := (by omega)
                      have q13 : 0 < x5_6.size := (by have : (0 : Int) < (x5_6.size : Int) := of_decide_eq_true (by first | (with_reducible assumption) | assumption); omega)
                      have hx13 : ∀ h : 0 < x5_6.size, ((x5_6[0]'h).toNat : Int) = bt x5_6 0 := bt_at x5_6 0
                      clear p13
                      have qi13 : (0 < (x5_6.size : Int)) = True := eq_true (of_decide_eq_true (by first | (with_reducible assumption) | assumption))
                      replace q13 := eq_true q13
                      go_wp2
                      go_meet
                      case rel => exact ⟨_, (x4_2), (by first | rfl | (simp; done) | (simp [*]; done)), H', ⟨by have := HJ2.out; have := HJ6.out; first | omega | exact Nat.le_refl _⟩, by repeat (first | exact Drawn0.refl _ | apply Drawn0.step)⟩
                  · rw [if_neg c14] at H
                    have c14b0 : ((bt x5_6 0) == 48) = false := beq_eq_false_iff_ne.mpr c14
                    have c14b1 : ((bt x5_6 0) != 48) = true := bne_iff_ne.mpr c14
                    have H' := Aside0.mk H
                    clear H
                    have p13 : 0 ≤ (0 : Int) := (by omega)
                    have q13 : 0 < x5_6.size := (by have : (0 : Int) < (x5_6.size : Int) := of_decide_eq_true (by first | (with_reducible assumption) | assumption); omega)
                    have hx13 : ∀ h : 0 < x5_6.size, ((x5_6[0]'h).toNat : Int) = bt x5_6 0 := bt_at x5_6 0
                    clear p13
                    have qi13 : (0 < (x5_6.size : Int)) = True := eq_true (of_decide_eq_true (by first | (with_reducible assumption) | assumption))
                    replace q13 := eq_true q13
                    go_wp2
                    go_meet
                    case rel => exact ⟨_, (false), (by first | rfl | (simp; done) | (simp [*]; done)), H', ⟨by have := HJ2.out; have := HJ6.out; first | omega | exact Nat.le_refl _⟩, by repeat (first | exact Drawn0.refl _ | apply Drawn0.step)⟩
                · rw [if_neg c12] at H
                  exact absurd H (by simp)
            case rest =>
              clear HC10
              try clear c1
              try clear p1
              try clear q1
              try clear hx1
              try clear qi1
              try clear c2
              try clear c2b0
              try clear c2b1
              try clear p2
              try clear c4
              try clear c4b0
              try clear c4b1
              try clear c5
              try clear c5b0
              try clear c5b1
              try clear c6
              try clear p6
              try clear q6
              try clear hx6
              try clear qi6
              try clear c8
              try clear c9
              try clear c9b0
              try clear c9b1
              try clear c11
              try clear c11b0
              try clear c11b1
              try clear c12
              try clear c12b0
              try clear c12b1
              try clear p13
              try clear q13
              try clear hx13
              try clear qi13
              try clear c14
              try clear c14b0
              try clear c14b1
              try clear c15
              try clear c15b0
              try clear c15b1
              try clear p13
              try clear p2
              try clear p6
              try clear q13
              try clear q6
              obtain ⟨kq, x38_9, rfl, HA, HJ9, ⟨mc9, rfl⟩⟩ := hcut
              cases kq with
              | zero => exact absurd HA.out (by simp [casketref4_ParseInt.j2])
              | succ kj9 =>
                have H := HA.out
                clear HA
                simp only [casketref4_ParseInt.j2] at H
                by_cases c16 : x38_9 = true
                · subst c16
                  have H1 : (some (0, 20)) = some (r1, r2) := by rw [if_pos rfl] at H; exact H
                  clear H
                  have H := H1
                  clear H1
                  simp only [Option.some.injEq, Prod.mk.injEq] at H
                  obtain ⟨rfl, rfl⟩ := H
                  go_wp2
                  go_ret2
                  exact ⟨by first | rfl | (simp; done) | (simp [*]; done), by repeat (first | exact Drawn0.refl _ | apply Drawn0.step)⟩
                · replace c16 := Bool.eq_false_iff.mpr c16
                  subst c16
                  have H1 : (casketref4_ParseInt.l0 kj9 x4_2 x5_6 0 false 0) = some (r1, r2) := by rw [if_neg (show ¬ (false = true) by decide)] at H; exact H
                  clear H
                  have H := H1
                  clear H1
                  have H' := Aside0.mk H
                  clear H
                  go_wp2
                  go_loopg [6, 7, 8] kj9 (fun kq v6 v7 v8 w' => ∃ (x6_4 : Int) (x7_4 : Bool) (x8_4 : Int), v6 = .int .u64 x6_4 ∧ v7 = .bool x7_4 ∧ v8 = .int .i64 x8_4 ∧ Aside0 (casketref4_ParseInt.l0 kq x4_2 x5_6 x6_4 x7_4 x8_4 = some (r1, r2)) ∧ Aside0 (kq ≤ kj9) ∧ Drawn0 w w')
                  case atStart => exact ⟨(0), (false), (0), (by first | rfl | (simp; done) | (simp [*]; done)), (by first | rfl | (simp; done) | (simp [*]; done)), (by first | rfl | (simp; done) | (simp [*]; done)), H', ⟨Nat.le_refl _⟩, by repeat (first | exact Drawn0.refl _ | apply Drawn0.step)⟩
                  case round =>
                    clear H'
                    try clear c1
                    try clear p1
                    try clear q1
                    try clear hx1
                    try clear qi1
                    try clear c2
                    try clear c2b0
                    try clear c2b1
                    try clear p2
                    try clear c4
                    try clear c4b0
                    try clear c4b1
                    try clear c5
                    try clear c5b0
                    try clear c5b1
                    try clear c6
                    try clear p6
                    try clear q6
                    try clear hx6
                    try clear qi6
                    try clear c8
                    try clear c9
                    try clear c9b0
                    try clear c9b1
                    try clear c11
                    try clear c11b0
                    try clear c11b1
                    try clear c12
                    try clear c12b0
                    try clear c12b1
                    try clear p13
                    try clear q13
                    try clear hx13
                    try clear qi13
                    try clear c14
                    try clear c14b0
                    try clear c14b1
                    try clear c15
                    try clear c15b0
                    try clear c15b1
                    try clear c16
                    try clear p1
                    try clear p13
                    try clear p2
                    try clear p6
                    try clear q1
                    try clear q13
                    try clear q6
                    obtain ⟨x6_4, x7_4, x8_4, rfl, rfl, rfl, HA, HK4, ⟨m4, rfl⟩⟩ := hrel
                    cases gk with
                    | zero => exact absurd HA.out (by simp [casketref4_ParseInt.l0])
                    | succ k4 =>
                      have H := HA.out
                      clear HA
                      simp only [casketref4_ParseInt.l0] at H
                      by_cases c17 : x8_4 < (x5_6.size : Int)
                      · rw [if_pos c17] at H
                        have c17b0 : decide (x8_4 < (x5_6.size : Int)) = true := decide_eq_true c17
                        clear c17
                        have HC18 := Aside0.mk H
                        clear H
                        go_upto_region 13 with (fail)
                        go_cut [54] (fun v54 wc => ∃ (kq : Nat) (x54_17 : Bool), v54 = .bool x54_17 ∧ Aside0 (casketref4_ParseInt.j4 kq x4_2 x5_6 x6_4 x7_4 x8_4 x54_17 = some (r1, r2)) ∧ Aside0 (kq ≤ k4) ∧ Drawn0 w wc)
                        case first =>
                          have H := HC18.out
                          clear HC18
                          by_cases c19 : 0 ≤ x8_4
                          · rw [if_pos c19] at H
                            have c19b0 : decide (0 ≤ x8_4) = true := decide_eq_true c19
                            clear c19
                            (first | rw [c19b0] | (simp only [i64_w, i32_w]; rw [c19b0]) | skip)
                            by_cases c21 : (bt x5_6 x8_4) < 48
                            · rw [if_pos c21] at H
                              have c21b0 : decide ((bt x5_6 x8_4) < 48) = true := decide_eq_true c21
                              clear c21
                              have H' := Aside0.mk H
                              clear H
                              have p20 : 0 ≤ (x8_4 : Int) := of_decide_eq_true (by first | (with_reducible assumption) | assumption)
                              have q20 : x8_4 < (x5_6.size : Int) := of_decide_eq_true (by first | (with_reducible assumption) | assumption)
                              have hx20 := bt_at x5_6 x8_4
                              replace p20 := eq_true p20
                              replace q20 := eq_true q20
                              go_wp2
                              go_meet
                              case rel => exact ⟨_, (true), (by first | rfl | (simp; done) | (simp [*]; done)), H', ⟨by have := HJ2.out; have := HJ6.out; have := HJ9.out; have := HK4.out; first | omega | exact Nat.le_refl _⟩, by repeat (first | exact Drawn0.refl _ | apply Drawn0.step)⟩
                            · rw [if_neg c21] at H
                              have c21b0 : decide ((bt x5_6 x8_4) < 48) = false := decide_eq_false c21
                              clear c21
                              have H' := Aside0.mk H
                              clear H
                              have p20 : 0 ≤ (x8_4 : Int) := of_decide_eq_true (by first | (with_reducible assumption) | assumption)
                              have q20 : x8_4 < (x5_6.size : Int) := of_decide_eq_true (by first | (with_reducible assumption) | assumption)
                              have hx20 := bt_at x5_6 x8_4
                              replace p20 := eq_true p20
                              replace q20 := eq_true q20
                              have p22 : 0 ≤ (x8_4 : Int) := of_decide_eq_true (by first | (with_reducible assumption) | assumption)
                              have q22 : x8_4 < (x5_6.size : Int) := of_decide_eq_true (by first | (with_reducible assumption) | assumption)
                              have hx22 := bt_at x5_6 x8_4
                              replace p22 := eq_true p22
                              replace q22 := eq_true q22
                              go_wp2
                              go_meet
                              case rel => exact ⟨_, (decide ((bt x5_6 x8_4) > 57)), (by first | rfl | (simp; done) | (simp [*]; done)), H', ⟨by have := HJ2.out; have := HJ6.out; have := HJ9.out; have := HK4.out; first | omega | exact Nat.le_refl _⟩, by repeat (first | exact Drawn0.refl _ | apply Drawn0.step)⟩
                          · rw [if_neg c19] at H
                            exact absurd H (by simp)
                        case rest =>
                          clear HC18
                          try clear c1
                          try clear p1
                          try clear q1
                          try clear hx1
                          try clear qi1
                          try clear c2
                          try clear c2b0
                          try clear c2b1
                          try clear p2
                          try clear q2
                          try clear hx2
                          try clear c4
                          try clear c4b0
                          try clear c4b1
                          try clear c5
                          try clear c5b0
                          try clear c5b1
                          try clear c6
                          try clear p6
                          try clear q6
                          try clear hx6
                          try clear qi6
                          try clear c8
                          try clear c9
                          try clear c9b0
                          try clear c9b1
                          try clear c11
                          try clear c11b0
                          try clear c11b1
                          try clear c12
                          try clear c12b0
                          try clear c12b1
                          try clear p13
                          try clear q13
                          try clear hx13
                          try clear qi13
                          try clear c14
                          try clear c14b0
                          try clear c14b1
                          try clear c15
                          try clear c15b0
                          try clear c15b1
                          try clear c16
                          try clear c17
                          try clear c17b0
                          try clear c19
                          try clear c19b0
                          try clear c20
                          try clear p20
                          try clear q20
                          try clear hx20
                          try clear c21
                          try clear c21b0
                          try clear p22
                          try clear q22
                          try clear hx22
                          try clear p1
                          try clear p13
                          try clear p2
                          try clear p20
                          try clear p22
                          try clear p6
                          try clear q1
                          try clear q13
                          try clear q20
                          try clear q22
                          try clear q6
                          obtain ⟨kq, x54_17, rfl, HA, HJ17, ⟨mc17, rfl⟩⟩ := hcut
                          cases kq with
                          | zero => exact absurd HA.out (by simp [casketref4_ParseInt.j4])
                          | succ kj17 =>
                            have H := HA.out
                            clear HA
                            simp only [casketref4_ParseInt.j4] at H
                            by_cases c23 : x54_17 = true
                            · subst c23
                              have H1 : (some (0, 20)) = some (r1, r2) := by rw [if_pos rfl] at H; exact H
                              clear H
                              have H := H1
                              clear H1
                              simp only [Option.some.injEq, Prod.mk.injEq] at H
                              obtain ⟨rfl, rfl⟩ := H
                              go_wp2
                              go_ret2
                              exact ⟨by first | rfl | (simp; done) | (simp [*]; done), by repeat (first | exact Drawn0.refl _ | apply Drawn0.step)⟩
                            · replace c23 := Bool.eq_false_iff.mpr c23
                              subst c23
                              have H1 : (if 0 ≤ x8_4 then (if x8_4 < (x5_6.size : Int) then (if x7_4 = true then (casketref4_ParseInt.l0 kj17 x4_2 x5_6 x6_4 true (wrap64 (x8_4 + 1))) else (if x6_4 > ((9223372036854775808 - (((bt x5_6 x8_4) - 48) % 256)) / 10) then (casketref4_ParseInt.l0 kj17 x4_2 x5_6 x6_4 true (wrap64 (x8_4 + 1))) else (casketref4_ParseInt.l0 kj17 x4_2 x5_6 (IntKind.u64.wrap ((IntKind.u64.wrap (10 * x6_4)) + (((bt x5_6 x8_4) - 48) % 256))) x7_4 (wrap64 (x8_4 + 1))))) else (none)) else (none)) = some (r1, r2) := by rw [if_neg (show ¬ (false = true) by decide)] at H; exact H
                              clear H
                              have H := H1
                              clear H1
                              by_cases c24 : 0 ≤ x8_4
                              · rw [if_pos c24] at H
                                have c24b0 : decide (0 ≤ x8_4) = true := decide_eq_true c24
                                clear c24
                                by_cases c25 : x8_4 < (x5_6.size : Int)
                                · rw [if_pos c25] at H
                                  have c25b0 : decide (x8_4 < (x5_6.size : Int)) = true := decide_eq_true c25
                                  clear c25
                                  by_cases c27 : x7_4 = true
                                  · subst c27
                                    have H1 : (casketref4_ParseInt.l0 kj17 x4_2 x5_6 x6_4 true (wrap64 (x8_4 + 1))) = some (r1, r2) := by rw [if_pos rfl] at H; exact H
                                    clear H
                                    have H := H1
                                    clear H1
                                    have H' := Aside0.mk H
                                    clear H
                                    have p26 : 0 ≤ (x8_4 : Int) := of_decide_eq_true (by first | (with_reducible assumption) | assumption)
                                    have q26 : x8_4 < (x5_6.size : Int) := of_decide_eq_true (by first | (with_reducible assumption) | assumption)
                                    have hx26 := bt_at x5_6 x8_4
                                    replace p26 := eq_true p26
                                    replace q26 := eq_true q26
                                    go_wp2
                                    go_roundg kj17
                                    case measure => have := HJ2.out; have := HJ6.out; have := HJ9.out; have := HK4.out; have := HJ17.out; omega
                                    case rel => exact ⟨(x6_4), (true), (wrap64 (x8_4 + 1)), (by first | rfl | (simp; done) | (simp [*]; done)), (by first | rfl | (simp; done) | (simp [*]; done)), (by first | rfl | (simp; done) | (simp [*]; done)), H', ⟨by have := HJ2.out; have := HJ6.out; have := HJ9.out; have := HK4.out; have := HJ17.out; omega⟩, by repeat (first | exact Drawn0.refl _ | apply Drawn0.step)⟩
                                  · replace c27 := Bool.eq_false_iff.mpr c27
                                    subst c27
                                    have H1 : (if x6_4 > ((9223372036854775808 - (((bt x5_6 x8_4) - 48) % 256)) / 10) then (casketref4_ParseInt.l0 kj17 x4_2 x5_6 x6_4 true (wrap64 (x8_4 + 1))) else (casketref4_ParseInt.l0 kj17 x4_2 x5_6 (IntKind.u64.wrap ((IntKind.u64.wrap (10 * x6_4)) + (((bt x5_6 x8_4) - 48) % 256))) false (wrap64 (x8_4 + 1)))) = some (r1, r2) := by rw [if_neg (show ¬ (false = true) by decide)] at H; exact H
                                    clear H
                                    have H := H1
                                    clear H1
                                    by_cases c28 : x6_4 > ((9223372036854775808 - (((bt x5_6 x8_4) - 48) % 256)) / 10)
                                    · rw [if_pos c28] at H
                                      have c28b0 : decide (((9223372036854775808 - (((bt x5_6 x8_4) - 48) % 256)) / 10) < x6_4) = true := decide_eq_true c28
                                      clear c28
                                      have H' := Aside0.mk H
                                      clear H
                                      have p26 : 0 ≤ (x8_4 : Int) := of_decide_eq_true (by first | (with_reducible assumption) | assumption)
                                      have q26 : x8_4 < (x5_6.size : Int) := of_decide_eq_true (by first | (with_reducible assumption) | assumption)
                                      have hx26 := bt_at x5_6 x8_4
                                      replace p26 := eq_true p26
                                      replace q26 := eq_true q26
                                      go_wp2
                                      go_roundg kj17
                                      case measure => have := HJ2.out; have := HJ6.out; have := HJ9.out; have := HK4.out; have := HJ17.out; omega
                                      case rel => exact ⟨(x6_4), (true), (wrap64 (x8_4 + 1)), (by first | rfl | (simp; done) | (simp [*]; done)), (by first | rfl | (simp; done) | (simp [*]; done)), (by first | rfl | (simp; done) | (simp [*]; done)), H', ⟨by have := HJ2.out; have := HJ6.out; have := HJ9.out; have := HK4.out; have := HJ17.out; omega⟩, by repeat (first | exact Drawn0.refl _ | apply Drawn0.step)⟩
                                    · rw [if_neg c28] at H
                                      have c28b0 : decide (((9223372036854775808 - (((bt x5_6 x8_4) - 48) % 256)) / 10) < x6_4) = false := decide_eq_false c28
                                      clear c28
                                      have H' := Aside0.mk H
                                      clear H
                                      have p26 : 0 ≤ (x8_4 : Int) := of_decide_eq_true (by first | (with_reducible assumption) | assumption)
                                      have q26 : x8_4 < (x5_6.size : Int) := of_decide_eq_true (by first | (with_reducible assumption) | assumption)
                                      have hx26 := bt_at x5_6 x8_4
                                      replace p26 := eq_true p26
                                      replace q26 := eq_true q26
                                      go_wp2
                                      go_roundg kj17
                                      case measure => have := HJ2.out; have := HJ6.out; have := HJ9.out; have := HK4.out; have := HJ17.out; omega
                                      case rel => exact ⟨(IntKind.u64.wrap ((IntKind.u64.wrap (10 * x6_4)) + (((bt x5_6 x8_4) - 48) % 256))), (false), (wrap64 (x8_4 + 1)), (by first | rfl | (simp; done) | (simp [*]; done)), (by first | rfl | (simp; done) | (simp [*]; done)), (by first | rfl | (simp; done) | (simp [*]; done)), H', ⟨by have := HJ2.out; have := HJ6.out; have := HJ9.out; have := HK4.out; have := HJ17.out; omega⟩, by repeat (first | exact Drawn0.refl _ | apply Drawn0.step)⟩
                                · rw [if_neg c25] at H
                                  exact absurd H (by simp)
                              · rw [if_neg c24] at H
                                exact absurd H (by simp)
                      · rw [if_neg c17] at H
                        have c17b0 : decide (x8_4 < (x5_6.size : Int)) = false := decide_eq_false c17
                        clear c17
                        have HC29 := Aside0.mk H
                        clear H
                        go_upto_region 19 with (fail)
                        go_cut [80] (fun v80 wc => ∃ (kq : Nat) (x80_28 : Bool), v80 = .bool x80_28 ∧ Aside0 (casketref4_ParseInt.j5 kq x4_2 x6_4 x80_28 = some (r1, r2)) ∧ Aside0 (kq ≤ k4) ∧ Drawn0 w wc)
                        case first =>
                          have H := HC29.out
                          clear HC29
                          by_cases c30 : x7_4 = true
                          · subst c30
                            have H1 : (casketref4_ParseInt.j5 k4 x4_2 x6_4 true) = some (r1, r2) := by rw [if_pos rfl] at H; exact H
                            clear H
                            have H := H1
                            clear H1
                            have H' := Aside0.mk H
                            clear H
                            go_wp2
                            go_meet
                            case rel => exact ⟨_, (true), (by first | rfl | (simp; done) | (simp [*]; done)), H', ⟨by have := HJ2.out; have := HJ6.out; have := HJ9.out; have := HK4.out; first | omega | exact Nat.le_refl _⟩, by repeat (first | exact Drawn0.refl _ | apply Drawn0.step)⟩
                          · replace c30 := Bool.eq_false_iff.mpr c30
                            subst c30
                            have H1 : (if x4_2 = true then (casketref4_ParseInt.j5 k4 x4_2 x6_4 false) else (casketref4_ParseInt.j5 k4 x4_2 x6_4 (x6_4 == 9223372036854775808))) = some (r1, r2) := by rw [if_neg (show ¬ (false = true) by decide)] at H; exact H
                            clear H
                            have H := H1
                            clear H1
                            by_cases c31 : x4_2 = true
                            · subst c31
                              have H1 : (casketref4_ParseInt.j5 k4 true x6_4 false) = some (r1, r2) := by rw [if_pos rfl] at H; exact H
                              clear H
                              have H := H1
                              clear H1
                              have H' := Aside0.mk H
                              clear H
                              go_wp2
                              go_meet
                              case rel => exact ⟨_, (false), (by first | rfl | (simp; done) | (simp [*]; done)), H', ⟨by have := HJ2.out; have := HJ6.out; have := HJ9.out; have := HK4.out; first | omega | exact Nat.le_refl _⟩, by repeat (first | exact Drawn0.refl _ | apply Drawn0.step)⟩
                            · replace c31 := Bool.eq_false_iff.mpr c31
                              subst c31
                              have H1 : (casketref4_ParseInt.j5 k4 false x6_4 (x6_4 == 9223372036854775808)) = some (r1, r2) := by rw [if_neg (show ¬ (false = true) by decide)] at H; exact H
                              clear H
                              have H := H1
                              clear H1
                              have H' := Aside0.mk H
                              clear H
                              go_wp2
                              go_meet
                              case rel => exact ⟨_, ((x6_4 == 9223372036854775808)), (by first | rfl | (simp; done) | (simp [*]; done)), H', ⟨by have := HJ2.out; have := HJ6.out; have := HJ9.out; have := HK4.out; first | omega | exact Nat.le_refl _⟩, by repeat (first | exact Drawn0.refl _ | apply Drawn0.step)⟩
                        case rest =>
                          clear HC29
                          try clear c1
                          try clear p1
                          try clear q1
                          try clear hx1
                          try clear qi1
                          try clear c2
                          try clear c2b0
                          try clear c2b1
                          try clear p2
                          try clear q2
                          try clear hx2
                          try clear c3
                          try clear c4
                          try clear c4b0
                          try clear c4b1
                          try clear c5
                          try clear c5b0
                          try clear c5b1
                          try clear c6
                          try clear p6
                          try clear q6
                          try clear hx6
                          try clear qi6
                          try clear c8
                          try clear c9
                          try clear c9b0
                          try clear c9b1
                          try clear c11
                          try clear c11b0
                          try clear c11b1
                          try clear c12
                          try clear c12b0
                          try clear c12b1
                          try clear p13
                          try clear q13
                          try clear hx13
                          try clear qi13
                          try clear c14
                          try clear c14b0
                          try clear c14b1
                          try clear c15
                          try clear c15b0
                          try clear c15b1
                          try clear c16
                          try clear c17
                          try clear c17b0
                          try clear c19
                          try clear c19b0
                          try clear c20
                          try clear p20
                          try clear q20
                          try clear hx20
                          try clear c21
                          try clear c21b0
                          try clear p22
                          try clear q22
                          try clear hx22
                          try clear c23
                          try clear c24
                          try clear c24b0
                          try clear c25
                          try clear c25b0
                          try clear p26
                          try clear q26
                          try clear hx26
                          try clear c27
                          try clear c28
                          try clear c28b0
                          try clear c30
                          try clear c31
                          try clear p1
                          try clear p13
                          try clear p2
                          try clear p20
                          try clear p22
                          try clear p26
                          try clear p6
                          try clear q1
                          try clear q13
                          try clear q2
                          try clear q20
                          try clear q22
                          try clear q26
                          try clear q6
                          obtain ⟨kq, x80_28, rfl, HA, HJ28, ⟨mc28, rfl⟩⟩ := hcut
                          cases kq with
                          | zero => exact absurd HA.out (by simp [casketref4_ParseInt.j5])
                          | succ kj28 =>
                            have H := HA.out
                            clear HA
                            simp only [casketref4_ParseInt.j5] at H
                            by_cases c32 : x80_28 = true
                            · subst c32
                              have H1 : (some (0, 13)) = some (r1, r2) := by rw [if_pos rfl] at H; exact H
                              clear H
                              have H := H1
                              clear H1
                              simp only [Option.some.injEq, Prod.mk.injEq] at H
                              obtain ⟨rfl, rfl⟩ := H
                              go_wp2
                              go_ret2
                              exact ⟨by first | rfl | (simp; done) | (simp [*]; done), by repeat (first | exact Drawn0.refl _ | apply Drawn0.step)⟩
                            · replace c32 := Bool.eq_false_iff.mpr c32
                              subst c32
                              have H1 : (if x4_2 = true then (some (wrap64 ((wrap64 (-(wrap64 (IntKind.u64.wrap (x6_4 - 1))))) - 1), 0)) else (some (wrap64 (x6_4), 0))) = some (r1, r2) := by rw [if_neg (show ¬ (false = true) by decide)] at H; exact H
                              clear H
                              have H := H1
                              clear H1
                              by_cases c33 : x4_2 = true
                              · subst c33
                                have H1 : (some (wrap64 ((wrap64 (-(wrap64 (IntKind.u64.wrap (x6_4 - 1))))) - 1), 0)) = some (r1, r2) := by rw [if_pos rfl] at H; exact H
                                clear H
                                have H := H1
                                clear H1
                                simp only [Option.some.injEq, Prod.mk.injEq] at H
                                obtain ⟨rfl, rfl⟩ := H
                                go_wp2
                                go_ret2
                                exact ⟨by first | rfl | (simp; done) | (simp [*]; done), by repeat (first | exact Drawn0.refl _ | apply Drawn0.step)⟩
                              · replace c33 := Bool.eq_false_iff.mpr c33
                                subst c33
                                have H1 : (some (wrap64 (x6_4), 0)) = some (r1, r2) := by rw [if_neg (show ¬ (false = true) by decide)] at H; exact H
                                clear H
                                have H := H1
                                clear H1
                                simp only [Option.some.injEq, Prod.mk.injEq] at H
                                obtain ⟨rfl, rfl⟩ := H
                                go_wp2
                                go_ret2
                                exact ⟨by first | rfl | (simp; done) | (simp [*]; done), by repeat (first | exact Drawn0.refl _ | apply Drawn0.step)⟩

end Go.Proofs.YtjdnneomkocghaaDoor.Print
