-- Written by a program of this session (wip/tools/myprint.py, over the kit's print.py). Not trusted: Lean checks it.
import Derived.Test.YtjdnneomkocghaaDoorPrint0
namespace Go.Proofs.YtjdnneomkocghaaDoor.Print
open Go.RowKit Go.Proofs.YtjdnneomkocghaaDoor.Given Go.Proofs.YtjdnneomkocghaaDoorW.PrintWords Go.Proofs.YtjdnneomkocghaaDoorW.PrintLast Go.Proofs.YtjdnneomkocghaaDoorW.PrintMore
attribute [local go_sem] max2_int min2_int max_two min_two max_three min_three max_four min_four   -- for this text's walks alone
set_option linter.unusedVariables false
set_option linter.unusedSimpArgs false

/-! ### casketref4_exact: function 38 -/
mutual
def casketref4_exact.j1 : Nat → Int → List Int → Int → Option (Int × Int)
  | 0, _, _, _ => none
  | k + 1, x0, x1, x2 => casketref4_exact.l1 k x0 x1 x2
def casketref4_exact.j3 : Nat → Int → List Int → Int → Option (Int × Int)
  | 0, _, _, _ => none
  | k + 1, x0, x1, x2 => if (x1.length : Int) = 0 then (some (x0, 0)) else (if (x1.length : Int) > 53 then (casketref4_exact.j4 k x0 x1 x2 (wrap64 ((wrap64 (x2 + (x1.length : Int))) - 1)) true) else (if (wrap64 ((wrap64 (x2 + (x1.length : Int))) - 1)) > 1023 then (casketref4_exact.j4 k x0 x1 x2 (wrap64 ((wrap64 (x2 + (x1.length : Int))) - 1)) true) else (casketref4_exact.j4 k x0 x1 x2 (wrap64 ((wrap64 (x2 + (x1.length : Int))) - 1)) (decide (x2 < (-1074))))))
def casketref4_exact.j4 : Nat → Int → List Int → Int → Int → Bool → Option (Int × Int)
  | 0, _, _, _, _, _ => none
  | k + 1, x0, x1, x2, x8, x61 => if x61 = true then (some (0, 21)) else (casketref4_exact.l2 k x0 x1 x2 x8 0 0)
def casketref4_exact.l2 : Nat → Int → List Int → Int → Int → Int → Int → Option (Int × Int)
  | 0, _, _, _, _, _, _ => none
  | k + 1, x0, x1, x2, x8, x9, x10 => if x10 < (x1.length : Int) then (if 0 ≤ x10 then (casketref4_exact.l2 k x0 x1 x2 x8 (IntKind.u64.wrap ((IntKind.u64.wrap (2 * x9)) + (IntKind.u64.wrap (rd x1 x10)))) (wrap64 (x10 + 1))) else (none)) else (if (wrap64 (x8 - 52)) < (-1074) then (casketref4_exact.j6 k x0 x2 x8 x9 (-1074)) else (casketref4_exact.j6 k x0 x2 x8 x9 (wrap64 (x8 - 52))))
def casketref4_exact.j6 : Nat → Int → Int → Int → Int → Int → Option (Int × Int)
  | 0, _, _, _, _, _ => none
  | k + 1, x0, x2, x8, x9, x11 => casketref4_exact.l3 k x0 x2 x8 x9 x11
def casketref4_exact.l3 : Nat → Int → Int → Int → Int → Int → Option (Int × Int)
  | 0, _, _, _, _, _ => none
  | k + 1, x0, x2, x8, x9, x11 => if x2 > x11 then (casketref4_exact.l3 k x0 (wrap64 (x2 - 1)) x8 (IntKind.u64.wrap (2 * x9)) x11) else (if x8 < (-1022) then (some (IntKind.u64.wrap (x0 + x9), 0)) else (some (IntKind.u64.wrap ((IntKind.u64.wrap (x0 + (IntKind.u64.wrap ((IntKind.u64.wrap (wrap64 (x8 + 1023))) * 4503599627370496)))) + (IntKind.u64.wrap (x9 - 4503599627370496))), 0)))
def casketref4_exact.l1 : Nat → Int → List Int → Int → Option (Int × Int)
  | 0, _, _, _ => none
  | k + 1, x0, x1, x2 => if (x1.length : Int) > 0 then (if 0 ≤ (wrap64 ((x1.length : Int) - 1)) then (if (wrap64 ((x1.length : Int) - 1)) < (x1.length : Int) then (if (rd x1 (wrap64 ((x1.length : Int) - 1))) = 0 then (if (wrap64 ((x1.length : Int) - 1)) ≤ (x1.length : Int) then (casketref4_exact.l1 k x0 (x1.take ((wrap64 ((x1.length : Int) - 1)) : Int).toNat) (wrap64 (x2 + 1))) else (none)) else (casketref4_exact.j3 k x0 x1 x2)) else (none)) else (none)) else (casketref4_exact.j3 k x0 x1 x2)
def casketref4_exact.l0 : Nat → Int → List Int → Int → Option (Int × Int)
  | 0, _, _, _ => none
  | k + 1, x0, x1, x2 => if (x1.length : Int) > 0 then (if 0 < (x1.length : Int) then (if (rd x1 0) = 0 then (if 1 ≤ (x1.length : Int) then (casketref4_exact.l0 k x0 (x1.drop 1) x2) else (none)) else (casketref4_exact.j1 k x0 x1 x2)) else (none)) else (casketref4_exact.j1 k x0 x1 x2)
end
def casketref4_exact.f (k : Nat) (a0 : Int) (l1 : List Int) (a2 : Int) : Option (Int × Int) := casketref4_exact.l0 k a0 l1 a2
theorem casketref4_exact.mono_l : ∀ k, (∀ y0 y1 y2, LeO (casketref4_exact.j1 k y0 y1 y2) (casketref4_exact.j1 (k + 1) y0 y1 y2)) ∧ (∀ y0 y1 y2, LeO (casketref4_exact.j3 k y0 y1 y2) (casketref4_exact.j3 (k + 1) y0 y1 y2)) ∧ (∀ y0 y1 y2 y3 y4, LeO (casketref4_exact.j4 k y0 y1 y2 y3 y4) (casketref4_exact.j4 (k + 1) y0 y1 y2 y3 y4)) ∧ (∀ y0 y1 y2 y3 y4 y5, LeO (casketref4_exact.l2 k y0 y1 y2 y3 y4 y5) (casketref4_exact.l2 (k + 1) y0 y1 y2 y3 y4 y5)) ∧ (∀ y0 y1 y2 y3 y4, LeO (casketref4_exact.j6 k y0 y1 y2 y3 y4) (casketref4_exact.j6 (k + 1) y0 y1 y2 y3 y4)) ∧ (∀ y0 y1 y2 y3 y4, LeO (casketref4_exact.l3 k y0 y1 y2 y3 y4) (casketref4_exact.l3 (k + 1) y0 y1 y2 y3 y4)) ∧ (∀ y0 y1 y2, LeO (casketref4_exact.l1 k y0 y1 y2) (casketref4_exact.l1 (k + 1) y0 y1 y2)) ∧ (∀ y0 y1 y2, LeO (casketref4_exact.l0 k y0 y1 y2) (casketref4_exact.l0 (k + 1) y0 y1 y2))
  | 0 => ⟨fun _ _ _ r h => by simp [casketref4_exact.j1] at h, fun _ _ _ r h => by simp [casketref4_exact.j3] at h, fun _ _ _ _ _ r h => by simp [casketref4_exact.j4] at h, fun _ _ _ _ _ _ r h => by simp [casketref4_exact.l2] at h, fun _ _ _ _ _ r h => by simp [casketref4_exact.j6] at h, fun _ _ _ _ _ r h => by simp [casketref4_exact.l3] at h, fun _ _ _ r h => by simp [casketref4_exact.l1] at h, fun _ _ _ r h => by simp [casketref4_exact.l0] at h⟩
  | k + 1 => by
    obtain ⟨ih0, ih1, ih2, ih3, ih4, ih5, ih6, ih7⟩ := casketref4_exact.mono_l k
    refine ⟨?_, ?_, ?_, ?_, ?_, ?_, ?_, ?_⟩
    · intro y0 y1 y2
      unfold casketref4_exact.j1
      repeat' first
      | (with_reducible exact ih0 _ _ _)
      | (with_reducible exact ih1 _ _ _)
      | (with_reducible exact ih2 _ _ _ _ _)
      | (with_reducible exact ih3 _ _ _ _ _ _)
      | (with_reducible exact ih4 _ _ _ _ _)
      | (with_reducible exact ih5 _ _ _ _ _)
      | (with_reducible exact ih6 _ _ _)
      | (with_reducible exact ih7 _ _ _)
      | (with_reducible exact LeO.refl _)
      | (with_reducible exact LeO.none _)
      | (with_reducible refine LeO.ite ?_ ?_)
      | (with_reducible refine LeO.bind ?_ (fun _ => ?_))
      | exact ih0 _ _ _
      | exact ih1 _ _ _
      | exact ih2 _ _ _ _ _
      | exact ih3 _ _ _ _ _ _
      | exact ih4 _ _ _ _ _
      | exact ih5 _ _ _ _ _
      | exact ih6 _ _ _
      | exact ih7 _ _ _
      | exact LeO.none _
      | refine LeO.ite ?_ ?_
      | refine LeO.bind ?_ (fun _ => ?_)
    · intro y0 y1 y2
      unfold casketref4_exact.j3
      repeat' first
      | (with_reducible exact ih0 _ _ _)
      | (with_reducible exact ih1 _ _ _)
      | (with_reducible exact ih2 _ _ _ _ _)
      | (with_reducible exact ih3 _ _ _ _ _ _)
      | (with_reducible exact ih4 _ _ _ _ _)
      | (with_reducible exact ih5 _ _ _ _ _)
      | (with_reducible exact ih6 _ _ _)
      | (with_reducible exact ih7 _ _ _)
      | (with_reducible exact LeO.refl _)
      | (with_reducible exact LeO.none _)
      | (with_reducible refine LeO.ite ?_ ?_)
      | (with_reducible refine LeO.bind ?_ (fun _ => ?_))
      | exact ih0 _ _ _
      | exact ih1 _ _ _
      | exact ih2 _ _ _ _ _
      | exact ih3 _ _ _ _ _ _
      | exact ih4 _ _ _ _ _
      | exact ih5 _ _ _ _ _
      | exact ih6 _ _ _
      | exact ih7 _ _ _
      | exact LeO.none _
      | refine LeO.ite ?_ ?_
      | refine LeO.bind ?_ (fun _ => ?_)
    · intro y0 y1 y2 y3 y4
      unfold casketref4_exact.j4
      repeat' first
      | (with_reducible exact ih0 _ _ _)
      | (with_reducible exact ih1 _ _ _)
      | (with_reducible exact ih2 _ _ _ _ _)
      | (with_reducible exact ih3 _ _ _ _ _ _)
      | (with_reducible exact ih4 _ _ _ _ _)
      | (with_reducible exact ih5 _ _ _ _ _)
      | (with_reducible exact ih6 _ _ _)
      | (with_reducible exact ih7 _ _ _)
      | (with_reducible exact LeO.refl _)
      | (with_reducible exact LeO.none _)
      | (with_reducible refine LeO.ite ?_ ?_)
      | (with_reducible refine LeO.bind ?_ (fun _ => ?_))
      | exact ih0 _ _ _
      | exact ih1 _ _ _
      | exact ih2 _ _ _ _ _
      | exact ih3 _ _ _ _ _ _
      | exact ih4 _ _ _ _ _
      | exact ih5 _ _ _ _ _
      | exact ih6 _ _ _
      | exact ih7 _ _ _
      | exact LeO.none _
      | refine LeO.ite ?_ ?_
      | refine LeO.bind ?_ (fun _ => ?_)
    · intro y0 y1 y2 y3 y4 y5
      unfold casketref4_exact.l2
      repeat' first
      | (with_reducible exact ih0 _ _ _)
      | (with_reducible exact ih1 _ _ _)
      | (with_reducible exact ih2 _ _ _ _ _)
      | (with_reducible exact ih3 _ _ _ _ _ _)
      | (with_reducible exact ih4 _ _ _ _ _)
      | (with_reducible exact ih5 _ _ _ _ _)
      | (with_reducible exact ih6 _ _ _)
      | (with_reducible exact ih7 _ _ _)
      | (with_reducible exact LeO.refl _)
      | (with_reducible exact LeO.none _)
      | (with_reducible refine LeO.ite ?_ ?_)
      | (with_reducible refine LeO.bind ?_ (fun _ => ?_))
      | exact ih0 _ _ _
      | exact ih1 _ _ _
      | exact ih2 _ _ _ _ _
      | exact ih3 _ _ _ _ _ _
      | exact ih4 _ _ _ _ _
      | exact ih5 _ _ _ _ _
      | exact ih6 _ _ _
      | exact ih7 _ _ _
      | exact LeO.none _
      | refine LeO.ite ?_ ?_
      | refine LeO.bind ?_ (fun _ => ?_)
    · intro y0 y1 y2 y3 y4
      unfold casketref4_exact.j6
      repeat' first
      | (with_reducible exact ih0 _ _ _)
      | (with_reducible exact ih1 _ _ _)
      | (with_reducible exact ih2 _ _ _ _ _)
      | (with_reducible exact ih3 _ _ _ _ _ _)
      | (with_reducible exact ih4 _ _ _ _ _)
      | (with_reducible exact ih5 _ _ _ _ _)
      | (with_reducible exact ih6 _ _ _)
      | (with_reducible exact ih7 _ _ _)
      | (with_reducible exact LeO.refl _)
      | (with_reducible exact LeO.none _)
      | (with_reducible refine LeO.ite ?_ ?_)
      | (with_reducible refine LeO.bind ?_ (fun _ => ?_))
      | exact ih0 _ _ _
      | exact ih1 _ _ _
      | exact ih2 _ _ _ _ _
      | exact ih3 _ _ _ _ _ _
      | exact ih4 _ _ _ _ _
      | exact ih5 _ _ _ _ _
      | exact ih6 _ _ _
      | exact ih7 _ _ _
      | exact LeO.none _
      | refine LeO.ite ?_ ?_
      | refine LeO.bind ?_ (fun _ => ?_)
    · intro y0 y1 y2 y3 y4
      unfold casketref4_exact.l3
      repeat' first
      | (with_reducible exact ih0 _ _ _)
      | (with_reducible exact ih1 _ _ _)
      | (with_reducible exact ih2 _ _ _ _ _)
      | (with_reducible exact ih3 _ _ _ _ _ _)
      | (with_reducible exact ih4 _ _ _ _ _)
      | (with_reducible exact ih5 _ _ _ _ _)
      | (with_reducible exact ih6 _ _ _)
      | (with_reducible exact ih7 _ _ _)
      | (with_reducible exact LeO.refl _)
      | (with_reducible exact LeO.none _)
      | (with_reducible refine LeO.ite ?_ ?_)
      | (with_reducible refine LeO.bind ?_ (fun _ => ?_))
      | exact ih0 _ _ _
      | exact ih1 _ _ _
      | exact ih2 _ _ _ _ _
      | exact ih3 _ _ _ _ _ _
      | exact ih4 _ _ _ _ _
      | exact ih5 _ _ _ _ _
      | exact ih6 _ _ _
      | exact ih7 _ _ _
      | exact LeO.none _
      | refine LeO.ite ?_ ?_
      | refine LeO.bind ?_ (fun _ => ?_)
    · intro y0 y1 y2
      unfold casketref4_exact.l1
      repeat' first
      | (with_reducible exact ih0 _ _ _)
      | (with_reducible exact ih1 _ _ _)
      | (with_reducible exact ih2 _ _ _ _ _)
      | (with_reducible exact ih3 _ _ _ _ _ _)
      | (with_reducible exact ih4 _ _ _ _ _)
      | (with_reducible exact ih5 _ _ _ _ _)
      | (with_reducible exact ih6 _ _ _)
      | (with_reducible exact ih7 _ _ _)
      | (with_reducible exact LeO.refl _)
      | (with_reducible exact LeO.none _)
      | (with_reducible refine LeO.ite ?_ ?_)
      | (with_reducible refine LeO.bind ?_ (fun _ => ?_))
      | exact ih0 _ _ _
      | exact ih1 _ _ _
      | exact ih2 _ _ _ _ _
      | exact ih3 _ _ _ _ _ _
      | exact ih4 _ _ _ _ _
      | exact ih5 _ _ _ _ _
      | exact ih6 _ _ _
      | exact ih7 _ _ _
      | exact LeO.none _
      | refine LeO.ite ?_ ?_
      | refine LeO.bind ?_ (fun _ => ?_)
    · intro y0 y1 y2
      unfold casketref4_exact.l0
      repeat' first
      | (with_reducible exact ih0 _ _ _)
      | (with_reducible exact ih1 _ _ _)
      | (with_reducible exact ih2 _ _ _ _ _)
      | (with_reducible exact ih3 _ _ _ _ _ _)
      | (with_reducible exact ih4 _ _ _ _ _)
      | (with_reducible exact ih5 _ _ _ _ _)
      | (with_reducible exact ih6 _ _ _)
      | (with_reducible exact ih7 _ _ _)
      | (with_reducible exact LeO.refl _)
      | (with_reducible exact LeO.none _)
      | (with_reducible refine LeO.ite ?_ ?_)
      | (with_reducible refine LeO.bind ?_ (fun _ => ?_))
      | exact ih0 _ _ _
      | exact ih1 _ _ _
      | exact ih2 _ _ _ _ _
      | exact ih3 _ _ _ _ _ _
      | exact ih4 _ _ _ _ _
      | exact ih5 _ _ _ _ _
      | exact ih6 _ _ _
      | exact ih7 _ _ _
      | exact LeO.none _
      | refine LeO.ite ?_ ?_
      | refine LeO.bind ?_ (fun _ => ?_)
theorem casketref4_exact.mono : ∀ a0 a1 a2 k, LeO (casketref4_exact.f k a0 a1 a2) (casketref4_exact.f (k + 1) a0 a1 a2) := by
  intro a0 a1 a2 k
  obtain ⟨ih0, ih1, ih2, ih3, ih4, ih5, ih6, ih7⟩ := casketref4_exact.mono_l k
  unfold casketref4_exact.f
  repeat' first
      | (with_reducible exact ih0 _ _ _)
      | (with_reducible exact ih1 _ _ _)
      | (with_reducible exact ih2 _ _ _ _ _)
      | (with_reducible exact ih3 _ _ _ _ _ _)
      | (with_reducible exact ih4 _ _ _ _ _)
      | (with_reducible exact ih5 _ _ _ _ _)
      | (with_reducible exact ih6 _ _ _)
      | (with_reducible exact ih7 _ _ _)
      | (with_reducible exact LeO.refl _)
      | (with_reducible exact LeO.none _)
      | (with_reducible refine LeO.ite ?_ ?_)
      | (with_reducible refine LeO.bind ?_ (fun _ => ?_))
      | exact ih0 _ _ _
      | exact ih1 _ _ _
      | exact ih2 _ _ _ _ _
      | exact ih3 _ _ _ _ _ _
      | exact ih4 _ _ _ _ _
      | exact ih5 _ _ _ _ _
      | exact ih6 _ _ _
      | exact ih7 _ _ _
      | exact LeO.none _
      | refine LeO.ite ?_ ?_
      | refine LeO.bind ?_ (fun _ => ?_)
set_option maxHeartbeats 8000000 in
set_option maxRecDepth 100000 in
theorem casketref4_exact.calls (k : Nat) (a0 : Int) (P1_ : Nat → Prop) (A1 : Option Addr) (c1 : Nat) (l1 : List Int) (a2 : Int) (r1 : Int) (r2 : Int) (w : World) (hs1 : Kd.V (Kd.int .i64) 3 w w.heap.size (fun k_ => P1_ k_) (.slice A1 l1.length c1) l1) (h : casketref4_exact.f k a0 l1 a2 = some (r1, r2)) :
    Calls Tryd.prog 38 #[.int .u64 a0, .slice A1 l1.length c1, .int .i64 a2] w fun e w' => e = .returned (.tuple #[.int .u64 r1, .int .i64 r2]) ∧ Below w.heap.size w w' := by
  have HO1 := Aside0.mk (show Kd.V (Kd.int .i64) 3 w w.heap.size (fun k_ => (P1_ k_ ∨ w.heap.size ≤ k_)) (.slice A1 l1.length c1) l1 from Kd.V_mono hs1 (fun k_ hk => .inl hk))
  have HB := Aside0.mk (Below.refl w.heap.size w)
  have H : (casketref4_exact.l0 k a0 l1 a2) = some (r1, r2) := h
  clear h
  have HC4 := Aside0.mk H
  clear H
  go_enter Tryd.func38, Tryd.ntmps38
  go_upto_block 0 with (fail)
  go_cut [1] (fun v1 wc => ∃ (kq : Nat) (x1_3 : List Int), Aside0 (casketref4_exact.j1 kq a0 x1_3 a2 = some (r1, r2)) ∧ Aside0 (kq ≤ k) ∧ Aside0 (Kd.V (Kd.int .i64) 3 wc w.heap.size (fun k_ => (P1_ k_ ∨ w.heap.size ≤ k_)) v1 x1_3) ∧ Aside0 (Below w.heap.size w wc))
  case first =>
    have H := HC4.out
    clear HC4
    have H' := Aside0.mk H
    clear H
    go_wp2
    go_loopg [1] k (fun kq v1 w' => ∃ (x1_1 : List Int), Aside0 (casketref4_exact.l0 kq a0 x1_1 a2 = some (r1, r2)) ∧ Aside0 (kq ≤ k) ∧ Aside0 (Kd.V (Kd.int .i64) 3 w' w.heap.size (fun k_ => (P1_ k_ ∨ w.heap.size ≤ k_)) v1 x1_1) ∧ Aside0 (Below w.heap.size w w'))
    case atStart => exact ⟨(l1), H', ⟨Nat.le_refl _⟩, ⟨by (with_reducible repeat (first | apply Kd.V_alloc | apply Kd.V_drewN | apply Kd.V_drew)); exact HO1.out⟩, ⟨by repeat (first | (with_reducible first | exact HB.out | apply below_alloc | apply pw_below_drewN | apply below_drew1) | exact HB.out)⟩⟩
    case round =>
      clear H'
      try clear c1
      try clear p2
      try clear c3
      obtain ⟨x1_1, HA, HK1, HO_1, HB⟩ := hrel
      cases gk with
      | zero => exact absurd HA.out (by simp [casketref4_exact.l0])
      | succ k1 =>
        have H := HA.out
        clear HA
        simp only [casketref4_exact.l0] at H
        by_cases c5 : (x1_1.length : Int) > 0
        · rw [if_pos c5] at H
          have c5b0 : decide (0 < (x1_1.length : Int)) = true := decide_eq_true c5
          have c5b1 : decide (0 < x1_1.length) = true := decide_eq_true (by omega)
          clear c5
          (first | rw [c5b0] | (simp only [i64_w, i32_w]; rw [c5b0]) | skip)
          by_cases c6 : 0 < (x1_1.length : Int)
          · rw [if_pos c6] at H
            have c6b0 : decide (0 < (x1_1.length : Int)) = true := decide_eq_true c6
            have c6b1 : decide (0 < x1_1.length) = true := decide_eq_true (by omega)
            clear c6
            by_cases c7 : (rd x1_1 0) = 0
            · rw [if_pos c7] at H
              have c7b0 : ((rd x1_1 0) == 0) = true := beq_iff_eq.mpr c7
              have c7b1 : ((rd x1_1 0) != 0) = false := bne_eq_false_iff_eq.mpr c7
              clear c7
              by_cases c8 : 1 ≤ (x1_1.length : Int)
              · rw [if_pos c8] at H
                have c8b0 := eq_true c8
                have c8b1 : decide (1 ≤ (x1_1.length : Int)) = true := decide_eq_true c8
                clear c8
                obtain ⟨y219, hy219⟩ : ∃ y_ : List Int, y_ = (x1_1.drop 1) := ⟨_, rfl⟩
                replace H : (casketref4_exact.l0 k1 a0 y219 a2) = some (r1, r2) := by first | (rw [hy219]; with_reducible exact H) | (have H2_ := (Option.bind_some _ _).symm.trans H; rw [hy219]; with_reducible exact H2_) | (have H2_ := (Option.bind_some _ _).symm.trans H; with_reducible exact H2_) | with_reducible exact H | (rw [hy219]; exact H) | exact H
                have Ny219 := Aside0.mk hy219
                clear hy219
                have H' := Aside0.mk H
                clear H
                obtain ⟨Ao9, co9, eo9⟩ := Kd.V_slice HO_1.out
                subst eo9
                have p218 : 0 ≤ (0 : Int) := (by omega)
                have q218 : 0 < (x1_1.length : Int) := of_decide_eq_true (by first | (with_reducible assumption) | assumption)
                obtain ⟨ad218, e218, hx218_0⟩ := Kd.at_int (Kd.V_reads' HO_1.out).2.2 0 p218 q218
                cases e218
                have qi218 : (0 < x1_1.length) = True := eq_true (by omega)
                (try rw [show ((0 : Int)).toNat = 0 from rfl] at hx218_0)
                (try rw [Addr.add_zero'] at hx218_0)
                replace p218 := eq_true p218
                replace q218 := eq_true q218
                have q10 : (1 : Int) ≤ ((x1_1.length : Int) : Int) := of_decide_eq_true (by first | (with_reducible assumption) | assumption)
                obtain ⟨i010, hi010, _, hsz10, _⟩ := info_parts info3
                have hroom10 : x1_1.length ≤ co9 := (Kd.V_reads' HO_1.out).2.1
                have hC10 : Kd.F (Kd.int .i64) _ _ (some ad218) x1_1.length x1_1 := (Kd.V_at (base := w.heap.size) HO_1.out).2.2
                have hcut10 := cut_from (P := Tryd.prog) 64 3 .i64 Tryd.underlying64 hi010 1 hsz10 (some ad218) x1_1.length co9 1 (by omega) q10
                have hr10 := Kd.F_cut (m := (1 : Int).toNat) (c := co9) hC10 (by omega) hroom10
                obtain ⟨A10, hA10⟩ : ∃ A1, A1 = (if co9 = (1 : Int).toNat then (some ad218) else ((some ad218) : Option Addr).map (·.add ((1 : Int).toNat * 1))) := ⟨_, rfl⟩
                obtain ⟨c10, hc10⟩ : ∃ c1, c1 = co9 - (1 : Int).toNat := ⟨_, rfl⟩
                have hy10 : y219.length = x1_1.length - (1 : Int).toNat := (by rw [Ny219.out, List.length_drop] <;> omega)
                rw [show (x1_1).drop (1 : Int).toNat = y219 from Ny219.out.symm] at hr10
                replace hr10 : Kd.F (Kd.int .i64) _ _ A10 y219.length y219 := (by rw [hA10]; exact hr10)
                rw [← hy10, ← hA10, ← hc10] at hcut10
                have HO223 := Aside0.mk (show Kd.V (Kd.int .i64) 3 _ w.heap.size _ (.slice A10 y219.length c10) y219 from Kd.V_mk (by rw [hy10, hc10]; exact Nat.sub_le_sub_right hroom10 _) hr10)
                have HC223 := Aside0.mk (show y219.length ≤ c10 from by rw [hy10, hc10]; exact Nat.sub_le_sub_right hroom10 _)
                clear hr10 hC10 hroom10 hi010 hsz10 hc10
                have KY10 := Aside0.mk hy10
                have KA10 := Aside0.mk hA10
                clear hy10 hA10
                replace q10 := eq_true q10
                go_wp2
                go_roundg k1
                case measure => have := HK1.out; omega
                case rel => exact ⟨(y219), H', ⟨by have := HK1.out; omega⟩, ⟨by (with_reducible repeat (first | apply Kd.V_alloc | apply Kd.V_drewN | apply Kd.V_drew)); exact HO223.out⟩, ⟨by repeat (first | (with_reducible first | exact HB.out | apply below_alloc | apply pw_below_drewN | apply below_drew1) | exact HB.out)⟩⟩
              · rw [if_neg c8] at H
                exact absurd H (by simp)
            · rw [if_neg c7] at H
              have c7b0 : ((rd x1_1 0) == 0) = false := beq_eq_false_iff_ne.mpr c7
              have c7b1 : ((rd x1_1 0) != 0) = true := bne_iff_ne.mpr c7
              have H' := Aside0.mk H
              clear H
              obtain ⟨Ao11, co11, eo11⟩ := Kd.V_slice HO_1.out
              subst eo11
              have p218 : 0 ≤ (0 : Int) := (by omega)
              have q218 : 0 < (x1_1.length : Int) := of_decide_eq_true (by first | (with_reducible assumption) | assumption)
              obtain ⟨ad218, e218, hx218_0⟩ := Kd.at_int (Kd.V_reads' HO_1.out).2.2 0 p218 q218
              cases e218
              have qi218 : (0 < x1_1.length) = True := eq_true (by omega)
              (try rw [show ((0 : Int)).toNat = 0 from rfl] at hx218_0)
              (try rw [Addr.add_zero'] at hx218_0)
              replace p218 := eq_true p218
              replace q218 := eq_true q218
              go_wp2
              go_meet
              case rel => exact ⟨_, (x1_1), H', ⟨by have := HK1.out; first | omega | exact Nat.le_refl _⟩, ⟨by (with_reducible repeat (first | apply Kd.V_alloc | apply Kd.V_drewN | apply Kd.V_drew)); exact HO_1.out⟩, ⟨by repeat (first | (with_reducible first | exact HB.out | apply below_alloc | apply pw_below_drewN | apply below_drew1) | exact HB.out)⟩⟩
          · rw [if_neg c6] at H
            exact absurd H (by simp)
        · rw [if_neg c5] at H
          have c5b0 : decide (0 < (x1_1.length : Int)) = false := decide_eq_false c5
          have c5b1 : decide (0 < x1_1.length) = false := decide_eq_false (by omega)
          clear c5
          (first | rw [c5b0] | (simp only [i64_w, i32_w]; rw [c5b0]) | skip)
          have H' := Aside0.mk H
          clear H
          obtain ⟨Ao12, co12, eo12⟩ := Kd.V_slice HO_1.out
          subst eo12
          go_wp2
          go_meet
          case rel => exact ⟨_, (x1_1), H', ⟨by have := HK1.out; first | omega | exact Nat.le_refl _⟩, ⟨by (with_reducible repeat (first | apply Kd.V_alloc | apply Kd.V_drewN | apply Kd.V_drew)); exact HO_1.out⟩, ⟨by repeat (first | (with_reducible first | exact HB.out | apply below_alloc | apply pw_below_drewN | apply below_drew1) | exact HB.out)⟩⟩
  case rest =>
    clear HC4
    try clear c1
    try clear q1
    try clear p2
    try clear q2
    try clear hx2
    try clear qi2
    try clear c3
    try clear c5
    try clear c5b0
    try clear c5b1
    try clear c6
    try clear c6b0
    try clear c6b1
    try clear c7
    try clear c7b0
    try clear c7b1
    try clear c8
    try clear c8b0
    try clear c8b1
    try clear c10
    try clear q10
    try clear hx218_0
    try clear p2
    try clear p218
    try clear q10
    try clear q218
    obtain ⟨kq, x1_3, HA, HJ3, HO_1, HB⟩ := hcut
    cases kq with
    | zero => exact absurd HA.out (by simp [casketref4_exact.j1])
    | succ kj3 =>
      have H := HA.out
      clear HA
      simp only [casketref4_exact.j1] at H
      have HC13 := Aside0.mk H
      clear H
      go_upto_block 2 with (fail)
      go_cut [1, 2] (fun v1 v2 wc => ∃ (kq : Nat) (x1_12 : List Int) (x2_12 : Int), v2 = .int .i64 x2_12 ∧ Aside0 (casketref4_exact.j3 kq a0 x1_12 x2_12 = some (r1, r2)) ∧ Aside0 (kq ≤ kj3) ∧ Aside0 (Kd.V (Kd.int .i64) 3 wc w.heap.size (fun k_ => (P1_ k_ ∨ w.heap.size ≤ k_)) v1 x1_12) ∧ Aside0 (Below w.heap.size w wc))
      case first =>
        have H := HC13.out
        clear HC13
        have H' := Aside0.mk H
        clear H
        go_wp2
        go_loopg [1, 2] kj3 (fun kq v1 v2 w' => ∃ (x1_2 : List Int) (x2_2 : Int), v2 = .int .i64 x2_2 ∧ Aside0 (casketref4_exact.l1 kq a0 x1_2 x2_2 = some (r1, r2)) ∧ Aside0 (kq ≤ kj3) ∧ Aside0 (Kd.V (Kd.int .i64) 3 w' w.heap.size (fun k_ => (P1_ k_ ∨ w.heap.size ≤ k_)) v1 x1_2) ∧ Aside0 (Below w.heap.size w w'))
        case atStart => exact ⟨(x1_3), (a2), (by first | rfl | (simp; done) | (simp [*]; done)), H', ⟨Nat.le_refl _⟩, ⟨by (with_reducible repeat (first | apply Kd.V_alloc | apply Kd.V_drewN | apply Kd.V_drew)); exact HO_1.out⟩, ⟨by repeat (first | (with_reducible first | exact HB.out | apply below_alloc | apply pw_below_drewN | apply below_drew1) | exact HB.out)⟩⟩
        case round =>
          clear H'
          try clear c1
          try clear q1
          try clear p2
          try clear q2
          try clear hx2
          try clear qi2
          try clear c3
          try clear c5
          try clear c5b0
          try clear c5b1
          try clear c6
          try clear c6b0
          try clear c6b1
          try clear c7
          try clear c7b0
          try clear c7b1
          try clear c8
          try clear c8b0
          try clear c8b1
          try clear c10
          try clear q10
          try clear hx218_0
          try clear p2
          try clear p218
          try clear q1
          try clear q10
          try clear q2
          try clear q218
          obtain ⟨x1_2, x2_2, rfl, HA, HK2, HO_1, HB⟩ := hrel
          cases gk with
          | zero => exact absurd HA.out (by simp [casketref4_exact.l1])
          | succ k2 =>
            have H := HA.out
            clear HA
            simp only [casketref4_exact.l1] at H
            by_cases c14 : (x1_2.length : Int) > 0
            · rw [if_pos c14] at H
              have c14b0 : decide (0 < (x1_2.length : Int)) = true := decide_eq_true c14
              have c14b1 : decide (0 < x1_2.length) = true := decide_eq_true (by omega)
              clear c14
              (first | rw [c14b0] | (simp only [i64_w, i32_w]; rw [c14b0]) | skip)
              obtain ⟨ji15, hji15⟩ : ∃ j_ : Int, (wrap64 ((x1_2.length : Int) - 1)) = j_ := ⟨_, rfl⟩
              replace H : (if 0 ≤ (ji15) then (if (ji15) < (x1_2.length : Int) then (if (rd x1_2 (ji15)) = 0 then (if (ji15) ≤ (x1_2.length : Int) then (casketref4_exact.l1 k2 a0 (x1_2.take ((ji15) : Int).toNat) (wrap64 (x2_2 + 1))) else (none)) else (casketref4_exact.j3 k2 a0 x1_2 x2_2)) else (none)) else (none)) = some (r1, r2) := by first | (rw [hji15] at H; exact H) | (simp only [hji15] at H ⊢; exact H)
              have hji15w : (IntKind.i64.wrap ((x1_2.length : Int) - 1)) = ji15 := (i64_w _).trans hji15
              by_cases c16 : 0 ≤ (ji15)
              · rw [if_pos c16] at H
                have c16b0 : decide (0 ≤ (ji15)) = true := decide_eq_true c16
                clear c16
                by_cases c17 : (ji15) < (x1_2.length : Int)
                · rw [if_pos c17] at H
                  have c17b0 : decide ((ji15) < (x1_2.length : Int)) = true := decide_eq_true c17
                  clear c17
                  by_cases c18 : (rd x1_2 (ji15)) = 0
                  · rw [if_pos c18] at H
                    have c18b0 : ((rd x1_2 (ji15)) == 0) = true := beq_iff_eq.mpr c18
                    have c18b1 : ((rd x1_2 (ji15)) != 0) = false := bne_eq_false_iff_eq.mpr c18
                    clear c18
                    have c19b0 := eq_true (of_decide_eq_true (by first | (with_reducible assumption) | assumption) : 0 ≤ (ji15))
                    by_cases c20 : (ji15) ≤ (x1_2.length : Int)
                    · rw [if_pos c20] at H
                      have c20b0 := eq_true c20
                      have c20b1 : decide ((ji15) ≤ (x1_2.length : Int)) = true := decide_eq_true c20
                      clear c20
                      obtain ⟨y225, hy225⟩ : ∃ y_ : List Int, y_ = (x1_2.take ((ji15) : Int).toNat) := ⟨_, rfl⟩
                      replace H : (casketref4_exact.l1 k2 a0 y225 (wrap64 (x2_2 + 1))) = some (r1, r2) := by first | (rw [hy225]; with_reducible exact H) | (have H2_ := (Option.bind_some _ _).symm.trans H; rw [hy225]; with_reducible exact H2_) | (have H2_ := (Option.bind_some _ _).symm.trans H; with_reducible exact H2_) | with_reducible exact H | (rw [hy225]; exact H) | exact H
                      have Ny225 := Aside0.mk hy225
                      clear hy225
                      have H' := Aside0.mk H
                      clear H
                      obtain ⟨Ao21, co21, eo21⟩ := Kd.V_slice HO_1.out
                      subst eo21
                      have p224 : 0 ≤ ((ji15) : Int) := of_decide_eq_true (by first | (with_reducible assumption) | assumption)
                      have q224 : (ji15) < (x1_2.length : Int) := of_decide_eq_true (by first | (with_reducible assumption) | assumption)
                      obtain ⟨ad224, e224, hx224_0⟩ := Kd.at_int (Kd.V_reads' HO_1.out).2.2 (ji15) p224 q224
                      cases e224
                      replace p224 := eq_true p224
                      replace q224 := eq_true q224
                      have q22 : ((ji15) : Int) ≤ ((x1_2.length : Int) : Int) := of_decide_eq_true (by first | (with_reducible assumption) | assumption)
                      obtain ⟨i022, hi022, _, hsz22, _⟩ := info_parts info3
                      have hroom22 : x1_2.length ≤ co21 := (Kd.V_reads' HO_1.out).2.1
                      have hC22 : Kd.F (Kd.int .i64) _ _ (some ad224) x1_2.length x1_2 := (Kd.V_at (base := w.heap.size) HO_1.out).2.2
                      have hcut22 := cut_to (P := Tryd.prog) 64 3 .i64 Tryd.underlying64 hi022 (some ad224) x1_2.length co21 (ji15) (of_decide_eq_true (by first | (with_reducible assumption) | assumption)) q22 hroom22
                      have hr22 := Kd.F_take (m := ((ji15) : Int).toNat) hC22 (by omega)
                      have hy22 : y225.length = ((ji15) : Int).toNat := (by rw [Ny225.out, List.length_take]; omega)
                      rw [← Ny225.out] at hr22
                      rw [← hy22] at hcut22
                      have HO229 := Aside0.mk (show Kd.V (Kd.int .i64) 3 _ w.heap.size _ (.slice (some ad224) y225.length co21) y225 from Kd.V_mk (by omega) hr22)
                      have HC229 := Aside0.mk (show y225.length ≤ co21 from by omega)
                      clear hr22 hC22 hroom22 hi022 hsz22
                      have KY22 := Aside0.mk hy22
                      clear hy22
                      replace q22 := eq_true q22
                      go_wp2
                      go_roundg k2
                      case measure => have := HJ3.out; have := HK2.out; omega
                      case rel => exact ⟨(y225), (wrap64 (x2_2 + 1)), (by first | rfl | (simp; done) | (simp [*]; done)), H', ⟨by have := HJ3.out; have := HK2.out; omega⟩, ⟨by (with_reducible repeat (first | apply Kd.V_alloc | apply Kd.V_drewN | apply Kd.V_drew)); exact HO229.out⟩, ⟨by repeat (first | (with_reducible first | exact HB.out | apply below_alloc | apply pw_below_drewN | apply below_drew1) | exact HB.out)⟩⟩
                    · rw [if_neg c20] at H
                      exact absurd H (by simp)
                  · rw [if_neg c18] at H
                    have c18b0 : ((rd x1_2 (ji15)) == 0) = false := beq_eq_false_iff_ne.mpr c18
                    have c18b1 : ((rd x1_2 (ji15)) != 0) = true := bne_iff_ne.mpr c18
                    have H' := Aside0.mk H
                    clear H
                    obtain ⟨Ao23, co23, eo23⟩ := Kd.V_slice HO_1.out
                    subst eo23
                    have p224 : 0 ≤ ((ji15) : Int) := of_decide_eq_true (by first | (with_reducible assumption) | assumption)
                    have q224 : (ji15) < (x1_2.length : Int) := of_decide_eq_true (by first | (with_reducible assumption) | assumption)
                    obtain ⟨ad224, e224, hx224_0⟩ := Kd.at_int (Kd.V_reads' HO_1.out).2.2 (ji15) p224 q224
                    cases e224
                    replace p224 := eq_true p224
                    replace q224 := eq_true q224
                    go_wp2
                    go_meet
                    case rel => exact ⟨_, (x1_2), (x2_2), (by first | rfl | (simp; done) | (simp [*]; done)), H', ⟨by have := HJ3.out; have := HK2.out; first | omega | exact Nat.le_refl _⟩, ⟨by (with_reducible repeat (first | apply Kd.V_alloc | apply Kd.V_drewN | apply Kd.V_drew)); exact HO_1.out⟩, ⟨by repeat (first | (with_reducible first | exact HB.out | apply below_alloc | apply pw_below_drewN | apply below_drew1) | exact HB.out)⟩⟩
                · rw [if_neg c17] at H
                  exact absurd H (by simp)
              · rw [if_neg c16] at H
                exact absurd H (by simp)
            · rw [if_neg c14] at H
              have c14b0 : decide (0 < (x1_2.length : Int)) = false := decide_eq_false c14
              have c14b1 : decide (0 < x1_2.length) = false := decide_eq_false (by omega)
              clear c14
              (first | rw [c14b0] | (simp only [i64_w, i32_w]; rw [c14b0]) | skip)
              have H' := Aside0.mk H
              clear H
              obtain ⟨Ao24, co24, eo24⟩ := Kd.V_slice HO_1.out
              subst eo24
              go_wp2
              go_meet
              case rel => exact ⟨_, (x1_2), (x2_2), (by first | rfl | (simp; done) | (simp [*]; done)), H', ⟨by have := HJ3.out; have := HK2.out; first | omega | exact Nat.le_refl _⟩, ⟨by (with_reducible repeat (first | apply Kd.V_alloc | apply Kd.V_drewN | apply Kd.V_drew)); exact HO_1.out⟩, ⟨by repeat (first | (with_reducible first | exact HB.out | apply below_alloc | apply pw_below_drewN | apply below_drew1) | exact HB.out)⟩⟩
      case rest =>
        clear HC13
        try clear c1
        try clear q1
        try clear c2
        try clear p2
        try clear q2
        try clear hx2
        try clear qi2
        try clear c3
        try clear c5
        try clear c5b0
        try clear c5b1
        try clear c6
        try clear c6b0
        try clear c6b1
        try clear p6
        try clear c7
        try clear c7b0
        try clear c7b1
        try clear c8
        try clear c8b0
        try clear c8b1
        try clear c10
        try clear q10
        try clear c14
        try clear c14b0
        try clear c14b1
        try clear c16
        try clear c16b0
        try clear c17
        try clear c17b0
        try clear c18
        try clear c18b0
        try clear c18b1
        try clear c19
        try clear c19b0
        try clear c20
        try clear c20b0
        try clear c20b1
        try clear p21
        try clear q21
        try clear hx21
        try clear qi21
        try clear p22
        try clear q22
        try clear hx22
        try clear hx218_0
        try clear hx224_0
        try clear p2
        try clear p218
        try clear p224
        try clear q1
        try clear q10
        try clear q2
        try clear q218
        try clear q22
        try clear q224
        obtain ⟨kq, x1_12, x2_12, rfl, HA, HJ12, HO_1, HB⟩ := hcut
        cases kq with
        | zero => exact absurd HA.out (by simp [casketref4_exact.j3])
        | succ kj12 =>
          have H := HA.out
          clear HA
          simp only [casketref4_exact.j3] at H
          by_cases c25 : (x1_12.length : Int) = 0
          · rw [if_pos c25] at H
            have c25b0 : ((x1_12.length : Int) == 0) = true := beq_iff_eq.mpr c25
            have c25b1 : ((x1_12.length : Int) != 0) = false := bne_eq_false_iff_eq.mpr c25
            clear c25
            simp only [Option.some.injEq, Prod.mk.injEq] at H
            obtain ⟨rfl, rfl⟩ := H
            obtain ⟨Ao26, co26, eo26⟩ := Kd.V_slice HO_1.out
            subst eo26
            go_wp2
            go_ret2
            exact ⟨by first | rfl | (simp [errW_none, errW_some] <;> rfl) | (simp [*, errW_none, errW_some] <;> rfl), by repeat (first | (with_reducible first | exact HB.out | apply below_alloc | apply pw_below_drewN | apply below_drew1) | exact HB.out)⟩
          · rw [if_neg c25] at H
            have c25b0 : ((x1_12.length : Int) == 0) = false := beq_eq_false_iff_ne.mpr c25
            have c25b1 : ((x1_12.length : Int) != 0) = true := bne_iff_ne.mpr c25
            have c25b2 : ¬ (x1_12 = []) := fun h_ => c25 (by rw [h_]; rfl)
            have HC27 := Aside0.mk H
            clear H
            obtain ⟨Ao28, co28, eo28⟩ := Kd.V_slice HO_1.out
            subst eo28
            go_upto_region 9 with (fail)
            go_cut [61] (fun v61 wc => ∃ (kq : Nat) (x61_26 : Bool), v61 = .bool x61_26 ∧ Aside0 (casketref4_exact.j4 kq a0 x1_12 x2_12 (wrap64 ((wrap64 (x2_12 + (x1_12.length : Int))) - 1)) x61_26 = some (r1, r2)) ∧ Aside0 (kq ≤ kj12) ∧ Aside0 (Kd.V (Kd.int .i64) 3 wc w.heap.size (fun k_ => (P1_ k_ ∨ w.heap.size ≤ k_)) (.slice Ao28 x1_12.length co28) x1_12) ∧ Aside0 (Below w.heap.size w wc))
            case first =>
              have H := HC27.out
              clear HC27
              by_cases c29 : (x1_12.length : Int) > 53
              · rw [if_pos c29] at H
                have c29b0 : decide (53 < (x1_12.length : Int)) = true := decide_eq_true c29
                have c29b1 : decide (53 < x1_12.length) = true := decide_eq_true (by omega)
                clear c29
                (first | rw [c29b0] | (simp only [i64_w, i32_w]; rw [c29b0]) | skip)
                have H' := Aside0.mk H
                clear H
                go_wp2
                go_meet
                case rel => exact ⟨_, (true), (by first | rfl | (simp; done) | (simp [*]; done)), H', ⟨by have := HJ3.out; have := HJ12.out; first | omega | exact Nat.le_refl _⟩, ⟨by (with_reducible repeat (first | apply Kd.V_alloc | apply Kd.V_drewN | apply Kd.V_drew)); exact HO_1.out⟩, ⟨by repeat (first | (with_reducible first | exact HB.out | apply below_alloc | apply pw_below_drewN | apply below_drew1) | exact HB.out)⟩⟩
              · rw [if_neg c29] at H
                have c29b0 : decide (53 < (x1_12.length : Int)) = false := decide_eq_false c29
                have c29b1 : decide (53 < x1_12.length) = false := decide_eq_false (by omega)
                clear c29
                (first | rw [c29b0] | (simp only [i64_w, i32_w]; rw [c29b0]) | skip)
                by_cases c30 : (wrap64 ((wrap64 (x2_12 + (x1_12.length : Int))) - 1)) > 1023
                · rw [if_pos c30] at H
                  have c30b0 : decide (1023 < (wrap64 ((wrap64 (x2_12 + (x1_12.length : Int))) - 1))) = true := decide_eq_true c30
                  clear c30
                  have H' := Aside0.mk H
                  clear H
                  go_wp2
                  go_meet
                  case rel => exact ⟨_, (true), (by first | rfl | (simp; done) | (simp [*]; done)), H', ⟨by have := HJ3.out; have := HJ12.out; first | omega | exact Nat.le_refl _⟩, ⟨by (with_reducible repeat (first | apply Kd.V_alloc | apply Kd.V_drewN | apply Kd.V_drew)); exact HO_1.out⟩, ⟨by repeat (first | (with_reducible first | exact HB.out | apply below_alloc | apply pw_below_drewN | apply below_drew1) | exact HB.out)⟩⟩
                · rw [if_neg c30] at H
                  have c30b0 : decide (1023 < (wrap64 ((wrap64 (x2_12 + (x1_12.length : Int))) - 1))) = false := decide_eq_false c30
                  clear c30
                  have H' := Aside0.mk H
                  clear H
                  go_wp2
                  go_meet
                  case rel => exact ⟨_, (decide (x2_12 < (-1074))), (by first | rfl | (simp; done) | (simp [*]; done)), H', ⟨by have := HJ3.out; have := HJ12.out; first | omega | exact Nat.le_refl _⟩, ⟨by (with_reducible repeat (first | apply Kd.V_alloc | apply Kd.V_drewN | apply Kd.V_drew)); exact HO_1.out⟩, ⟨by repeat (first | (with_reducible first | exact HB.out | apply below_alloc | apply pw_below_drewN | apply below_drew1) | exact HB.out)⟩⟩
            case rest =>
              clear HC27
              try clear c1
              try clear q1
              try clear c2
              try clear p2
              try clear q2
              try clear hx2
              try clear qi2
              try clear c3
              try clear c5
              try clear c5b0
              try clear c5b1
              try clear c6
              try clear c6b0
              try clear c6b1
              try clear p6
              try clear c7
              try clear c7b0
              try clear c7b1
              try clear c8
              try clear c8b0
              try clear c8b1
              try clear c10
              try clear q10
              try clear c14
              try clear c14b0
              try clear c14b1
              try clear c16
              try clear c16b0
              try clear c17
              try clear c17b0
              try clear c18
              try clear c18b0
              try clear c18b1
              try clear c19
              try clear c19b0
              try clear c20
              try clear c20b0
              try clear c20b1
              try clear p21
              try clear q21
              try clear hx21
              try clear qi21
              try clear p22
              try clear q22
              try clear hx22
              try clear c25
              try clear c25b0
              try clear c25b1
              try clear c25b2
              try clear c29
              try clear c29b0
              try clear c29b1
              try clear c30
              try clear c30b0
              try clear hx218_0
              try clear hx224_0
              try clear p2
              try clear p21
              try clear p218
              try clear p22
              try clear p224
              try clear p6
              try clear q1
              try clear q10
              try clear q2
              try clear q21
              try clear q218
              try clear q22
              try clear q224
              obtain ⟨kq, x61_26, rfl, HA, HJ26, HO_1, HB⟩ := hcut
              cases kq with
              | zero => exact absurd HA.out (by simp [casketref4_exact.j4])
              | succ kj26 =>
                have H := HA.out
                clear HA
                simp only [casketref4_exact.j4] at H
                by_cases c31 : x61_26 = true
                · subst c31
                  have H1 : (some (0, 21)) = some (r1, r2) := by rw [if_pos rfl] at H; exact H
                  clear H
                  have H := H1
                  clear H1
                  simp only [Option.some.injEq, Prod.mk.injEq] at H
                  obtain ⟨rfl, rfl⟩ := H
                  go_wp2
                  go_ret2
                  exact ⟨by first | rfl | (simp [errW_none, errW_some] <;> rfl) | (simp [*, errW_none, errW_some] <;> rfl), by repeat (first | (with_reducible first | exact HB.out | apply below_alloc | apply pw_below_drewN | apply below_drew1) | exact HB.out)⟩
                · replace c31 := Bool.eq_false_iff.mpr c31
                  subst c31
                  have H1 : (casketref4_exact.l2 kj26 a0 x1_12 x2_12 (wrap64 ((wrap64 (x2_12 + (x1_12.length : Int))) - 1)) 0 0) = some (r1, r2) := by rw [if_neg (show ¬ (false = true) by decide)] at H; exact H
                  clear H
                  have H := H1
                  clear H1
                  have H' := Aside0.mk H
                  clear H
                  go_wp2
                  go_loopg [9, 10] kj26 (fun kq v9 v10 w' => ∃ (x9_4 : Int) (x10_4 : Int), v9 = .int .u64 x9_4 ∧ v10 = .int .i64 x10_4 ∧ Aside0 (casketref4_exact.l2 kq a0 x1_12 x2_12 (wrap64 ((wrap64 (x2_12 + (x1_12.length : Int))) - 1)) x9_4 x10_4 = some (r1, r2)) ∧ Aside0 (kq ≤ kj26) ∧ Aside0 (Kd.V (Kd.int .i64) 3 w' w.heap.size (fun k_ => (P1_ k_ ∨ w.heap.size ≤ k_)) (.slice Ao28 x1_12.length co28) x1_12) ∧ Aside0 (Below w.heap.size w w'))
                  case atStart => exact ⟨(0), (0), (by first | rfl | (simp; done) | (simp [*]; done)), (by first | rfl | (simp; done) | (simp [*]; done)), H', ⟨Nat.le_refl _⟩, ⟨by (with_reducible repeat (first | apply Kd.V_alloc | apply Kd.V_drewN | apply Kd.V_drew)); exact HO_1.out⟩, ⟨by repeat (first | (with_reducible first | exact HB.out | apply below_alloc | apply pw_below_drewN | apply below_drew1) | exact HB.out)⟩⟩
                  case round =>
                    clear H'
                    try clear c1
                    try clear q1
                    try clear c2
                    try clear p2
                    try clear q2
                    try clear hx2
                    try clear qi2
                    try clear c3
                    try clear c5
                    try clear c5b0
                    try clear c5b1
                    try clear c6
                    try clear c6b0
                    try clear c6b1
                    try clear p6
                    try clear c7
                    try clear c7b0
                    try clear c7b1
                    try clear c8
                    try clear c8b0
                    try clear c8b1
                    try clear c10
                    try clear q10
                    try clear c14
                    try clear c14b0
                    try clear c14b1
                    try clear c16
                    try clear c16b0
                    try clear c17
                    try clear c17b0
                    try clear c18
                    try clear c18b0
                    try clear c18b1
                    try clear c19
                    try clear c19b0
                    try clear c20
                    try clear c20b0
                    try clear c20b1
                    try clear p21
                    try clear q21
                    try clear hx21
                    try clear qi21
                    try clear p22
                    try clear q22
                    try clear hx22
                    try clear c25
                    try clear c25b0
                    try clear c25b1
                    try clear c25b2
                    try clear c29
                    try clear c29b0
                    try clear c29b1
                    try clear c30
                    try clear c30b0
                    try clear c31
                    try clear hx218_0
                    try clear hx224_0
                    try clear p2
                    try clear p21
                    try clear p218
                    try clear p22
                    try clear p224
                    try clear p6
                    try clear q1
                    try clear q10
                    try clear q2
                    try clear q21
                    try clear q218
                    try clear q22
                    try clear q224
                    obtain ⟨x9_4, x10_4, rfl, rfl, HA, HK4, HO_1, HB⟩ := hrel
                    cases gk with
                    | zero => exact absurd HA.out (by simp [casketref4_exact.l2])
                    | succ k4 =>
                      have H := HA.out
                      clear HA
                      simp only [casketref4_exact.l2] at H
                      by_cases c32 : x10_4 < (x1_12.length : Int)
                      · rw [if_pos c32] at H
                        have c32b0 : decide (x10_4 < (x1_12.length : Int)) = true := decide_eq_true c32
                        clear c32
                        by_cases c33 : 0 ≤ x10_4
                        · rw [if_pos c33] at H
                          have c33b0 : decide (0 ≤ x10_4) = true := decide_eq_true c33
                          clear c33
                          have H' := Aside0.mk H
                          clear H
                          have p230 : 0 ≤ (x10_4 : Int) := of_decide_eq_true (by first | (with_reducible assumption) | assumption)
                          have q230 : x10_4 < (x1_12.length : Int) := of_decide_eq_true (by first | (with_reducible assumption) | assumption)
                          obtain ⟨ad230, e230, hx230_0⟩ := Kd.at_int (Kd.V_reads' HO_1.out).2.2 x10_4 p230 q230
                          cases e230
                          replace p230 := eq_true p230
                          replace q230 := eq_true q230
                          go_wp2
                          go_roundg k4
                          case measure => have := HJ3.out; have := HJ12.out; have := HJ26.out; have := HK4.out; omega
                          case rel => exact ⟨(IntKind.u64.wrap ((IntKind.u64.wrap (2 * x9_4)) + (IntKind.u64.wrap (rd x1_12 x10_4)))), (wrap64 (x10_4 + 1)), (by first | rfl | (simp; done) | (simp [*]; done)), (by first | rfl | (simp; done) | (simp [*]; done)), H', ⟨by have := HJ3.out; have := HJ12.out; have := HJ26.out; have := HK4.out; omega⟩, ⟨by (with_reducible repeat (first | apply Kd.V_alloc | apply Kd.V_drewN | apply Kd.V_drew)); exact HO_1.out⟩, ⟨by repeat (first | (with_reducible first | exact HB.out | apply below_alloc | apply pw_below_drewN | apply below_drew1) | exact HB.out)⟩⟩
                        · rw [if_neg c33] at H
                          exact absurd H (by simp)
                      · rw [if_neg c32] at H
                        have c32b0 : decide (x10_4 < (x1_12.length : Int)) = false := decide_eq_false c32
                        clear c32
                        have HC34 := Aside0.mk H
                        clear H
                        go_upto_if 79 with (fail)
                        go_cut [11] (fun v11 wc => ∃ (kq : Nat) (x11_33 : Int), v11 = .int .i64 x11_33 ∧ Aside0 (casketref4_exact.j6 kq a0 x2_12 (wrap64 ((wrap64 (x2_12 + (x1_12.length : Int))) - 1)) x9_4 x11_33 = some (r1, r2)) ∧ Aside0 (kq ≤ k4) ∧ Aside0 (Below w.heap.size w wc))
                        case first =>
                          have H := HC34.out
                          clear HC34
                          by_cases c35 : (wrap64 ((wrap64 ((wrap64 (x2_12 + (x1_12.length : Int))) - 1)) - 52)) < (-1074)
                          · rw [if_pos c35] at H
                            have c35b0 : decide ((wrap64 ((wrap64 ((wrap64 (x2_12 + (x1_12.length : Int))) - 1)) - 52)) < (-1074)) = true := decide_eq_true c35
                            clear c35
                            (first | rw [c35b0] | (simp only [i64_w, i32_w]; rw [c35b0]) | skip)
                            have H' := Aside0.mk H
                            clear H
                            go_wp2
                            go_meet
                            case rel => exact ⟨_, ((-1074)), (by first | rfl | (simp; done) | (simp [*]; done)), H', ⟨by have := HJ3.out; have := HJ12.out; have := HJ26.out; have := HK4.out; first | omega | exact Nat.le_refl _⟩, ⟨by repeat (first | (with_reducible first | exact HB.out | apply below_alloc | apply pw_below_drewN | apply below_drew1) | exact HB.out)⟩⟩
                          · rw [if_neg c35] at H
                            have c35b0 : decide ((wrap64 ((wrap64 ((wrap64 (x2_12 + (x1_12.length : Int))) - 1)) - 52)) < (-1074)) = false := decide_eq_false c35
                            clear c35
                            (first | rw [c35b0] | (simp only [i64_w, i32_w]; rw [c35b0]) | skip)
                            have H' := Aside0.mk H
                            clear H
                            go_wp2
                            go_meet
                            case rel => exact ⟨_, (wrap64 ((wrap64 ((wrap64 (x2_12 + (x1_12.length : Int))) - 1)) - 52)), (by first | rfl | (simp; done) | (simp [*]; done)), H', ⟨by have := HJ3.out; have := HJ12.out; have := HJ26.out; have := HK4.out; first | omega | exact Nat.le_refl _⟩, ⟨by repeat (first | (with_reducible first | exact HB.out | apply below_alloc | apply pw_below_drewN | apply below_drew1) | exact HB.out)⟩⟩
                        case rest =>
                          clear HC34
                          try clear c1
                          try clear q1
                          try clear c2
                          try clear p2
                          try clear q2
                          try clear hx2
                          try clear qi2
                          try clear c3
                          try clear c5
                          try clear c5b0
                          try clear c5b1
                          try clear c6
                          try clear c6b0
                          try clear c6b1
                          try clear p6
                          try clear c7
                          try clear c7b0
                          try clear c7b1
                          try clear c8
                          try clear c8b0
                          try clear c8b1
                          try clear c10
                          try clear q10
                          try clear c14
                          try clear c14b0
                          try clear c14b1
                          try clear c16
                          try clear c16b0
                          try clear c17
                          try clear c17b0
                          try clear c18
                          try clear c18b0
                          try clear c18b1
                          try clear c19
                          try clear c19b0
                          try clear c20
                          try clear c20b0
                          try clear c20b1
                          try clear p21
                          try clear q21
                          try clear hx21
                          try clear qi21
                          try clear p22
                          try clear q22
                          try clear hx22
                          try clear p23
                          try clear q23
                          try clear hx23
                          try clear c25
                          try clear c25b0
                          try clear c25b1
                          try clear c25b2
                          try clear c29
                          try clear c29b0
                          try clear c29b1
                          try clear c30
                          try clear c30b0
                          try clear c31
                          try clear c32
                          try clear c32b0
                          try clear c33
                          try clear c33b0
                          try clear c35
                          try clear c35b0
                          try clear hx218_0
                          try clear hx224_0
                          try clear hx230_0
                          try clear p2
                          try clear p21
                          try clear p218
                          try clear p22
                          try clear p224
                          try clear p230
                          try clear p6
                          try clear q1
                          try clear q10
                          try clear q2
                          try clear q21
                          try clear q218
                          try clear q22
                          try clear q224
                          try clear q230
                          obtain ⟨kq, x11_33, rfl, HA, HJ33, HB⟩ := hcut
                          cases kq with
                          | zero => exact absurd HA.out (by simp [casketref4_exact.j6])
                          | succ kj33 =>
                            have H := HA.out
                            clear HA
                            simp only [casketref4_exact.j6] at H
                            have H' := Aside0.mk H
                            clear H
                            go_wp2
                            go_loopg [2, 9] kj33 (fun kq v2 v9 w' => ∃ (x2_6 : Int) (x9_6 : Int), v2 = .int .i64 x2_6 ∧ v9 = .int .u64 x9_6 ∧ Aside0 (casketref4_exact.l3 kq a0 x2_6 (wrap64 ((wrap64 (x2_12 + (x1_12.length : Int))) - 1)) x9_6 x11_33 = some (r1, r2)) ∧ Aside0 (kq ≤ kj33) ∧ Aside0 (Below w.heap.size w w'))
                            case atStart => exact ⟨(x2_12), (x9_4), (by first | rfl | (simp; done) | (simp [*]; done)), (by first | rfl | (simp; done) | (simp [*]; done)), H', ⟨Nat.le_refl _⟩, ⟨by repeat (first | (with_reducible first | exact HB.out | apply below_alloc | apply pw_below_drewN | apply below_drew1) | exact HB.out)⟩⟩
                            case round =>
                              clear H'
                              try clear c1
                              try clear q1
                              try clear c2
                              try clear p2
                              try clear q2
                              try clear hx2
                              try clear qi2
                              try clear c3
                              try clear c5
                              try clear c5b0
                              try clear c5b1
                              try clear c6
                              try clear c6b0
                              try clear c6b1
                              try clear p6
                              try clear c7
                              try clear c7b0
                              try clear c7b1
                              try clear c8
                              try clear c8b0
                              try clear c8b1
                              try clear c10
                              try clear q10
                              try clear c14
                              try clear c14b0
                              try clear c14b1
                              try clear c16
                              try clear c16b0
                              try clear c17
                              try clear c17b0
                              try clear c18
                              try clear c18b0
                              try clear c18b1
                              try clear c19
                              try clear c19b0
                              try clear c20
                              try clear c20b0
                              try clear c20b1
                              try clear p21
                              try clear q21
                              try clear hx21
                              try clear qi21
                              try clear p22
                              try clear q22
                              try clear hx22
                              try clear p23
                              try clear q23
                              try clear hx23
                              try clear c25
                              try clear c25b0
                              try clear c25b1
                              try clear c25b2
                              try clear c29
                              try clear c29b0
                              try clear c29b1
                              try clear c30
                              try clear c30b0
                              try clear c31
                              try clear c32
                              try clear c32b0
                              try clear c33
                              try clear c33b0
                              try clear c35
                              try clear c35b0
                              try clear hx218_0
                              try clear hx224_0
                              try clear hx230_0
                              try clear p2
                              try clear p21
                              try clear p218
                              try clear p22
                              try clear p224
                              try clear p23
                              try clear p230
                              try clear p6
                              try clear q1
                              try clear q10
                              try clear q2
                              try clear q21
                              try clear q218
                              try clear q22
                              try clear q224
                              try clear q23
                              try clear q230
                              obtain ⟨x2_6, x9_6, rfl, rfl, HA, HK6, HB⟩ := hrel
                              cases gk with
                              | zero => exact absurd HA.out (by simp [casketref4_exact.l3])
                              | succ k6 =>
                                have H := HA.out
                                clear HA
                                simp only [casketref4_exact.l3] at H
                                by_cases c36 : x2_6 > x11_33
                                · rw [if_pos c36] at H
                                  have c36b0 : decide (x11_33 < x2_6) = true := decide_eq_true c36
                                  clear c36
                                  have H' := Aside0.mk H
                                  clear H
                                  go_wp2
                                  go_roundg k6
                                  case measure => have := HJ3.out; have := HJ12.out; have := HJ26.out; have := HK4.out; have := HJ33.out; have := HK6.out; omega
                                  case rel => exact ⟨(wrap64 (x2_6 - 1)), (IntKind.u64.wrap (2 * x9_6)), (by first | rfl | (simp; done) | (simp [*]; done)), (by first | rfl | (simp; done) | (simp [*]; done)), H', ⟨by have := HJ3.out; have := HJ12.out; have := HJ26.out; have := HK4.out; have := HJ33.out; have := HK6.out; omega⟩, ⟨by repeat (first | (with_reducible first | exact HB.out | apply below_alloc | apply pw_below_drewN | apply below_drew1) | exact HB.out)⟩⟩
                                · rw [if_neg c36] at H
                                  have c36b0 : decide (x11_33 < x2_6) = false := decide_eq_false c36
                                  clear c36
                                  by_cases c37 : (wrap64 ((wrap64 (x2_12 + (x1_12.length : Int))) - 1)) < (-1022)
                                  · rw [if_pos c37] at H
                                    have c37b0 : decide ((wrap64 ((wrap64 (x2_12 + (x1_12.length : Int))) - 1)) < (-1022)) = true := decide_eq_true c37
                                    clear c37
                                    simp only [Option.some.injEq, Prod.mk.injEq] at H
                                    obtain ⟨rfl, rfl⟩ := H
                                    go_wp2
                                    go_ret2
                                    exact ⟨by first | rfl | (simp [errW_none, errW_some] <;> rfl) | (simp [*, errW_none, errW_some] <;> rfl), by repeat (first | (with_reducible first | exact HB.out | apply below_alloc | apply pw_below_drewN | apply below_drew1) | exact HB.out)⟩
                                  · rw [if_neg c37] at H
                                    have c37b0 : decide ((wrap64 ((wrap64 (x2_12 + (x1_12.length : Int))) - 1)) < (-1022)) = false := decide_eq_false c37
                                    clear c37
                                    simp only [Option.some.injEq, Prod.mk.injEq] at H
                                    obtain ⟨rfl, rfl⟩ := H
                                    go_wp2
                                    go_ret2
                                    exact ⟨by first | rfl | (simp [errW_none, errW_some] <;> rfl) | (simp [*, errW_none, errW_some] <;> rfl), by repeat (first | (with_reducible first | exact HB.out | apply below_alloc | apply pw_below_drewN | apply below_drew1) | exact HB.out)⟩

end Go.Proofs.YtjdnneomkocghaaDoor.Print
