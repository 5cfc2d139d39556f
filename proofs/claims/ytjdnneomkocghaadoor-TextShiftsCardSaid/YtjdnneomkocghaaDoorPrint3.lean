-- Written by a program of this session (wip/tools/myprint.py, over the kit's print.py). Not trusted: Lean checks it.
import Derived.Test.YtjdnneomkocghaaDoorPrint0
namespace Go.Proofs.YtjdnneomkocghaaDoor.Print
open Go.RowKit Go.Proofs.YtjdnneomkocghaaDoor.Given Go.Proofs.YtjdnneomkocghaaDoorW.PrintWords Go.Proofs.YtjdnneomkocghaaDoorW.PrintLast Go.Proofs.YtjdnneomkocghaaDoorW.PrintMore
attribute [local go_sem] max2_int min2_int max_two min_two max_three min_three max_four min_four   -- for this text's walks alone
set_option linter.unusedVariables false
set_option linter.unusedSimpArgs false

/-! ### numtext_exact: function 30 -/
mutual
def numtext_exact.j1 : Nat → List Int → Int → Option (Int × Bool)
  | 0, _, _ => none
  | k + 1, x0, x1 => numtext_exact.l1 k x0 x1
def numtext_exact.j3 : Nat → List Int → Int → Option (Int × Bool)
  | 0, _, _ => none
  | k + 1, x0, x1 => if (x0.length : Int) = 0 then (some (0, true)) else (if (x0.length : Int) > 14 then (some (0, false)) else (numtext_exact.l2 k x1 0 x0 (x0.length : Int) 0))
def numtext_exact.l2 : Nat → Int → Int → List Int → Int → Int → Option (Int × Bool)
  | 0, _, _, _, _, _ => none
  | k + 1, x1, x6, x48, x49, x50 => if x50 < x49 then (if 0 ≤ x50 then (if x50 < (x48.length : Int) then (numtext_exact.l2 k x1 (Go.bits .or .u64 (IntKind.u64.wrap (x6 * 16)) (rd x48 x50)) x48 x49 (wrap64 (x50 + 1))) else (none)) else (none)) else ((bits_TrailingZeros64.f x6).bind fun t118 => (if 0 ≤ t118 then ((bits_Len64.f (shr .u64 x6 t118)).bind fun t119 => (if t119 > 53 then (numtext_exact.j5 k (wrap64 (x1 + t118)) (shr .u64 x6 t118) t119 (wrap64 ((wrap64 ((wrap64 (x1 + t118)) + t119)) - 1)) true) else (if (wrap64 ((wrap64 ((wrap64 (x1 + t118)) + t119)) - 1)) > 1023 then (numtext_exact.j5 k (wrap64 (x1 + t118)) (shr .u64 x6 t118) t119 (wrap64 ((wrap64 ((wrap64 (x1 + t118)) + t119)) - 1)) true) else (numtext_exact.j5 k (wrap64 (x1 + t118)) (shr .u64 x6 t118) t119 (wrap64 ((wrap64 ((wrap64 (x1 + t118)) + t119)) - 1)) (decide ((wrap64 (x1 + t118)) < (-1074))))))) else (none)))
def numtext_exact.j5 : Nat → Int → Int → Int → Int → Bool → Option (Int × Bool)
  | 0, _, _, _, _, _ => none
  | k + 1, x1, x6, x10, x11, x73 => if x73 = true then (some (0, false)) else (if x11 < (-1022) then (if 0 ≤ (wrap64 (x1 + 1074)) then (some (shl .u64 x6 (wrap64 (x1 + 1074)), true)) else (none)) else (if 0 ≤ (wrap64 (53 - x10)) then (some (Go.bits .or .u64 (IntKind.u64.wrap ((IntKind.u64.wrap (wrap64 (x11 + 1023))) * 4503599627370496)) (Go.bits .and .u64 (shl .u64 x6 (wrap64 (53 - x10))) 4503599627370495), true)) else (none)))
def numtext_exact.l1 : Nat → List Int → Int → Option (Int × Bool)
  | 0, _, _ => none
  | k + 1, x0, x1 => if (x0.length : Int) > 0 then (if 0 ≤ (wrap64 ((x0.length : Int) - 1)) then (if (wrap64 ((x0.length : Int) - 1)) < (x0.length : Int) then (if (rd x0 (wrap64 ((x0.length : Int) - 1))) = 0 then (if (wrap64 ((x0.length : Int) - 1)) ≤ (x0.length : Int) then (numtext_exact.l1 k (x0.take ((wrap64 ((x0.length : Int) - 1)) : Int).toNat) (wrap64 (x1 + 4))) else (none)) else (numtext_exact.j3 k x0 x1)) else (none)) else (none)) else (numtext_exact.j3 k x0 x1)
def numtext_exact.l0 : Nat → List Int → Int → Option (Int × Bool)
  | 0, _, _ => none
  | k + 1, x0, x1 => if (x0.length : Int) > 0 then (if 0 < (x0.length : Int) then (if (rd x0 0) = 0 then (if 1 ≤ (x0.length : Int) then (numtext_exact.l0 k (x0.drop 1) x1) else (none)) else (numtext_exact.j1 k x0 x1)) else (none)) else (numtext_exact.j1 k x0 x1)
end
def numtext_exact.f (k : Nat) (l0 : List Int) (a1 : Int) : Option (Int × Bool) := numtext_exact.l0 k l0 a1
theorem numtext_exact.mono_l : ∀ k, (∀ y0 y1, LeO (numtext_exact.j1 k y0 y1) (numtext_exact.j1 (k + 1) y0 y1)) ∧ (∀ y0 y1, LeO (numtext_exact.j3 k y0 y1) (numtext_exact.j3 (k + 1) y0 y1)) ∧ (∀ y0 y1 y2 y3 y4, LeO (numtext_exact.l2 k y0 y1 y2 y3 y4) (numtext_exact.l2 (k + 1) y0 y1 y2 y3 y4)) ∧ (∀ y0 y1 y2 y3 y4, LeO (numtext_exact.j5 k y0 y1 y2 y3 y4) (numtext_exact.j5 (k + 1) y0 y1 y2 y3 y4)) ∧ (∀ y0 y1, LeO (numtext_exact.l1 k y0 y1) (numtext_exact.l1 (k + 1) y0 y1)) ∧ (∀ y0 y1, LeO (numtext_exact.l0 k y0 y1) (numtext_exact.l0 (k + 1) y0 y1))
  | 0 => ⟨fun _ _ r h => by simp [numtext_exact.j1] at h, fun _ _ r h => by simp [numtext_exact.j3] at h, fun _ _ _ _ _ r h => by simp [numtext_exact.l2] at h, fun _ _ _ _ _ r h => by simp [numtext_exact.j5] at h, fun _ _ r h => by simp [numtext_exact.l1] at h, fun _ _ r h => by simp [numtext_exact.l0] at h⟩
  | k + 1 => by
    obtain ⟨ih0, ih1, ih2, ih3, ih4, ih5⟩ := numtext_exact.mono_l k
    refine ⟨?_, ?_, ?_, ?_, ?_, ?_⟩
    · intro y0 y1
      unfold numtext_exact.j1
      repeat' first
      | (with_reducible exact ih0 _ _)
      | (with_reducible exact ih1 _ _)
      | (with_reducible exact ih2 _ _ _ _ _)
      | (with_reducible exact ih3 _ _ _ _ _)
      | (with_reducible exact ih4 _ _)
      | (with_reducible exact ih5 _ _)
      | (with_reducible exact LeO.refl _)
      | (with_reducible exact LeO.none _)
      | (with_reducible refine LeO.ite ?_ ?_)
      | (with_reducible refine LeO.bind ?_ (fun _ => ?_))
      | exact ih0 _ _
      | exact ih1 _ _
      | exact ih2 _ _ _ _ _
      | exact ih3 _ _ _ _ _
      | exact ih4 _ _
      | exact ih5 _ _
      | exact LeO.none _
      | refine LeO.ite ?_ ?_
      | refine LeO.bind ?_ (fun _ => ?_)
    · intro y0 y1
      unfold numtext_exact.j3
      repeat' first
      | (with_reducible exact ih0 _ _)
      | (with_reducible exact ih1 _ _)
      | (with_reducible exact ih2 _ _ _ _ _)
      | (with_reducible exact ih3 _ _ _ _ _)
      | (with_reducible exact ih4 _ _)
      | (with_reducible exact ih5 _ _)
      | (with_reducible exact LeO.refl _)
      | (with_reducible exact LeO.none _)
      | (with_reducible refine LeO.ite ?_ ?_)
      | (with_reducible refine LeO.bind ?_ (fun _ => ?_))
      | exact ih0 _ _
      | exact ih1 _ _
      | exact ih2 _ _ _ _ _
      | exact ih3 _ _ _ _ _
      | exact ih4 _ _
      | exact ih5 _ _
      | exact LeO.none _
      | refine LeO.ite ?_ ?_
      | refine LeO.bind ?_ (fun _ => ?_)
    · intro y0 y1 y2 y3 y4
      unfold numtext_exact.l2
      repeat' first
      | (with_reducible exact ih0 _ _)
      | (with_reducible exact ih1 _ _)
      | (with_reducible exact ih2 _ _ _ _ _)
      | (with_reducible exact ih3 _ _ _ _ _)
      | (with_reducible exact ih4 _ _)
      | (with_reducible exact ih5 _ _)
      | (with_reducible exact LeO.refl _)
      | (with_reducible exact LeO.none _)
      | (with_reducible refine LeO.ite ?_ ?_)
      | (with_reducible refine LeO.bind ?_ (fun _ => ?_))
      | exact ih0 _ _
      | exact ih1 _ _
      | exact ih2 _ _ _ _ _
      | exact ih3 _ _ _ _ _
      | exact ih4 _ _
      | exact ih5 _ _
      | exact LeO.none _
      | refine LeO.ite ?_ ?_
      | refine LeO.bind ?_ (fun _ => ?_)
    · intro y0 y1 y2 y3 y4
      unfold numtext_exact.j5
      repeat' first
      | (with_reducible exact ih0 _ _)
      | (with_reducible exact ih1 _ _)
      | (with_reducible exact ih2 _ _ _ _ _)
      | (with_reducible exact ih3 _ _ _ _ _)
      | (with_reducible exact ih4 _ _)
      | (with_reducible exact ih5 _ _)
      | (with_reducible exact LeO.refl _)
      | (with_reducible exact LeO.none _)
      | (with_reducible refine LeO.ite ?_ ?_)
      | (with_reducible refine LeO.bind ?_ (fun _ => ?_))
      | exact ih0 _ _
      | exact ih1 _ _
      | exact ih2 _ _ _ _ _
      | exact ih3 _ _ _ _ _
      | exact ih4 _ _
      | exact ih5 _ _
      | exact LeO.none _
      | refine LeO.ite ?_ ?_
      | refine LeO.bind ?_ (fun _ => ?_)
    · intro y0 y1
      unfold numtext_exact.l1
      repeat' first
      | (with_reducible exact ih0 _ _)
      | (with_reducible exact ih1 _ _)
      | (with_reducible exact ih2 _ _ _ _ _)
      | (with_reducible exact ih3 _ _ _ _ _)
      | (with_reducible exact ih4 _ _)
      | (with_reducible exact ih5 _ _)
      | (with_reducible exact LeO.refl _)
      | (with_reducible exact LeO.none _)
      | (with_reducible refine LeO.ite ?_ ?_)
      | (with_reducible refine LeO.bind ?_ (fun _ => ?_))
      | exact ih0 _ _
      | exact ih1 _ _
      | exact ih2 _ _ _ _ _
      | exact ih3 _ _ _ _ _
      | exact ih4 _ _
      | exact ih5 _ _
      | exact LeO.none _
      | refine LeO.ite ?_ ?_
      | refine LeO.bind ?_ (fun _ => ?_)
    · intro y0 y1
      unfold numtext_exact.l0
      repeat' first
      | (with_reducible exact ih0 _ _)
      | (with_reducible exact ih1 _ _)
      | (with_reducible exact ih2 _ _ _ _ _)
      | (with_reducible exact ih3 _ _ _ _ _)
      | (with_reducible exact ih4 _ _)
      | (with_reducible exact ih5 _ _)
      | (with_reducible exact LeO.refl _)
      | (with_reducible exact LeO.none _)
      | (with_reducible refine LeO.ite ?_ ?_)
      | (with_reducible refine LeO.bind ?_ (fun _ => ?_))
      | exact ih0 _ _
      | exact ih1 _ _
      | exact ih2 _ _ _ _ _
      | exact ih3 _ _ _ _ _
      | exact ih4 _ _
      | exact ih5 _ _
      | exact LeO.none _
      | refine LeO.ite ?_ ?_
      | refine LeO.bind ?_ (fun _ => ?_)
theorem numtext_exact.mono : ∀ a0 a1 k, LeO (numtext_exact.f k a0 a1) (numtext_exact.f (k + 1) a0 a1) := by
  intro a0 a1 k
  obtain ⟨ih0, ih1, ih2, ih3, ih4, ih5⟩ := numtext_exact.mono_l k
  unfold numtext_exact.f
  repeat' first
      | (with_reducible exact ih0 _ _)
      | (with_reducible exact ih1 _ _)
      | (with_reducible exact ih2 _ _ _ _ _)
      | (with_reducible exact ih3 _ _ _ _ _)
      | (with_reducible exact ih4 _ _)
      | (with_reducible exact ih5 _ _)
      | (with_reducible exact LeO.refl _)
      | (with_reducible exact LeO.none _)
      | (with_reducible refine LeO.ite ?_ ?_)
      | (with_reducible refine LeO.bind ?_ (fun _ => ?_))
      | exact ih0 _ _
      | exact ih1 _ _
      | exact ih2 _ _ _ _ _
      | exact ih3 _ _ _ _ _
      | exact ih4 _ _
      | exact ih5 _ _
      | exact LeO.none _
      | refine LeO.ite ?_ ?_
      | refine LeO.bind ?_ (fun _ => ?_)
set_option maxHeartbeats 8000000 in
set_option maxRecDepth 100000 in
theorem numtext_exact.calls (k : Nat) (P0_ : Nat → Prop) (A0 : Option Addr) (c0 : Nat) (l0 : List Int) (a1 : Int) (r1 : Int) (r2 : Bool) (w : World) (hG : Glob w) (hs0 : Kd.V (Kd.int .u64) 22 w w.heap.size (fun k_ => P0_ k_) (.slice A0 l0.length c0) l0) (h : numtext_exact.f k l0 a1 = some (r1, r2)) :
    Calls Tryd.prog 30 #[.slice A0 l0.length c0, .int .i64 a1] w fun e w' => e = .returned (.tuple #[.int .u64 r1, .bool r2]) ∧ Below w.heap.size w w' := by
  have HG0 := Aside0.mk hG
  clear hG
  have HO0 := Aside0.mk (show Kd.V (Kd.int .u64) 22 w w.heap.size (fun k_ => (P0_ k_ ∨ w.heap.size ≤ k_)) (.slice A0 l0.length c0) l0 from Kd.V_mono hs0 (fun k_ hk => .inl hk))
  have HB := Aside0.mk (Below.refl w.heap.size w)
  have H : (numtext_exact.l0 k l0 a1) = some (r1, r2) := h
  clear h
  have HC3 := Aside0.mk H
  clear H
  go_enter Tryd.func30, Tryd.ntmps30
  go_upto_block 0 with (fail)
  go_cut [0] (fun v0 wc => ∃ (kq : Nat) (x0_2 : List Int), Aside0 (numtext_exact.j1 kq x0_2 a1 = some (r1, r2)) ∧ Aside0 (kq ≤ k) ∧ Aside0 (Kd.V (Kd.int .u64) 22 wc w.heap.size (fun k_ => (P0_ k_ ∨ w.heap.size ≤ k_)) v0 x0_2) ∧ Aside0 (Below w.heap.size w wc))
  case first =>
    have H := HC3.out
    clear HC3
    have H' := Aside0.mk H
    clear H
    go_wp2
    go_loopg [0] k (fun kq v0 w' => ∃ (x0_1 : List Int), Aside0 (numtext_exact.l0 kq x0_1 a1 = some (r1, r2)) ∧ Aside0 (kq ≤ k) ∧ Aside0 (Kd.V (Kd.int .u64) 22 w' w.heap.size (fun k_ => (P0_ k_ ∨ w.heap.size ≤ k_)) v0 x0_1) ∧ Aside0 (Below w.heap.size w w'))
    case atStart => exact ⟨(l0), H', ⟨Nat.le_refl _⟩, ⟨by (with_reducible repeat (first | apply Kd.V_alloc | apply Kd.V_drewN | apply Kd.V_drew)); exact HO0.out⟩, ⟨by repeat (first | (with_reducible first | exact HB.out | apply below_alloc | apply pw_below_drewN | apply below_drew1) | exact HB.out)⟩⟩
    case round =>
      clear H'
      try clear p2
      try clear c3
      obtain ⟨x0_1, HA, HK1, HO_0, HB⟩ := hrel
      cases gk with
      | zero => exact absurd HA.out (by simp [numtext_exact.l0])
      | succ k1 =>
        have H := HA.out
        clear HA
        simp only [numtext_exact.l0] at H
        by_cases c4 : (x0_1.length : Int) > 0
        · rw [if_pos c4] at H
          have c4b0 : decide (0 < (x0_1.length : Int)) = true := decide_eq_true c4
          have c4b1 : decide (0 < x0_1.length) = true := decide_eq_true (by omega)
          clear c4
          (first | rw [c4b0] | (simp only [i64_w, i32_w]; rw [c4b0]) | skip)
          by_cases c5 : 0 < (x0_1.length : Int)
          · rw [if_pos c5] at H
            have c5b0 : decide (0 < (x0_1.length : Int)) = true := decide_eq_true c5
            have c5b1 : decide (0 < x0_1.length) = true := decide_eq_true (by omega)
            clear c5
            by_cases c6 : (rd x0_1 0) = 0
            · rw [if_pos c6] at H
              have c6b0 : ((rd x0_1 0) == 0) = true := beq_iff_eq.mpr c6
              have c6b1 : ((rd x0_1 0) != 0) = false := bne_eq_false_iff_eq.mpr c6
              clear c6
              by_cases c7 : 1 ≤ (x0_1.length : Int)
              · rw [if_pos c7] at H
                have c7b0 := eq_true c7
                have c7b1 : decide (1 ≤ (x0_1.length : Int)) = true := decide_eq_true c7
                clear c7
                obtain ⟨y106, hy106⟩ : ∃ y_ : List Int, y_ = (x0_1.drop 1) := ⟨_, rfl⟩
                replace H : (numtext_exact.l0 k1 y106 a1) = some (r1, r2) := by first | (rw [hy106]; with_reducible exact H) | (have H2_ := (Option.bind_some _ _).symm.trans H; rw [hy106]; with_reducible exact H2_) | (have H2_ := (Option.bind_some _ _).symm.trans H; with_reducible exact H2_) | with_reducible exact H | (rw [hy106]; exact H) | exact H
                have Ny106 := Aside0.mk hy106
                clear hy106
                have H' := Aside0.mk H
                clear H
                obtain ⟨Ao8, co8, eo8⟩ := Kd.V_slice HO_0.out
                subst eo8
                have p105 : 0 ≤ (0 : Int) := (by omega)
                have q105 : 0 < (x0_1.length : Int) := of_decide_eq_true (by first | (with_reducible assumption) | assumption)
                obtain ⟨ad105, e105, hx105_0⟩ := Kd.at_int (Kd.V_reads' HO_0.out).2.2 0 p105 q105
                cases e105
                have qi105 : (0 < x0_1.length) = True := eq_true (by omega)
                (try rw [show ((0 : Int)).toNat = 0 from rfl] at hx105_0)
                (try rw [Addr.add_zero'] at hx105_0)
                replace p105 := eq_true p105
                replace q105 := eq_true q105
                have q9 : (1 : Int) ≤ ((x0_1.length : Int) : Int) := of_decide_eq_true (by first | (with_reducible assumption) | assumption)
                obtain ⟨i09, hi09, _, hsz9, _⟩ := info_parts info22
                have hroom9 : x0_1.length ≤ co8 := (Kd.V_reads' HO_0.out).2.1
                have hC9 : Kd.F (Kd.int .u64) _ _ (some ad105) x0_1.length x0_1 := (Kd.V_at (base := w.heap.size) HO_0.out).2.2
                have hcut9 := cut_from (P := Tryd.prog) 48 22 .i64 Tryd.underlying48 hi09 1 hsz9 (some ad105) x0_1.length co8 1 (by omega) q9
                have hr9 := Kd.F_cut (m := (1 : Int).toNat) (c := co8) hC9 (by omega) hroom9
                obtain ⟨A9, hA9⟩ : ∃ A1, A1 = (if co8 = (1 : Int).toNat then (some ad105) else ((some ad105) : Option Addr).map (·.add ((1 : Int).toNat * 1))) := ⟨_, rfl⟩
                obtain ⟨c9, hc9⟩ : ∃ c1, c1 = co8 - (1 : Int).toNat := ⟨_, rfl⟩
                have hy9 : y106.length = x0_1.length - (1 : Int).toNat := (by rw [Ny106.out, List.length_drop] <;> omega)
                rw [show (x0_1).drop (1 : Int).toNat = y106 from Ny106.out.symm] at hr9
                replace hr9 : Kd.F (Kd.int .u64) _ _ A9 y106.length y106 := (by rw [hA9]; exact hr9)
                rw [← hy9, ← hA9, ← hc9] at hcut9
                have HO110 := Aside0.mk (show Kd.V (Kd.int .u64) 22 _ w.heap.size _ (.slice A9 y106.length c9) y106 from Kd.V_mk (by rw [hy9, hc9]; exact Nat.sub_le_sub_right hroom9 _) hr9)
                have HC110 := Aside0.mk (show y106.length ≤ c9 from by rw [hy9, hc9]; exact Nat.sub_le_sub_right hroom9 _)
                clear hr9 hC9 hroom9 hi09 hsz9 hc9
                have KY9 := Aside0.mk hy9
                have KA9 := Aside0.mk hA9
                clear hy9 hA9
                replace q9 := eq_true q9
                go_wp2
                go_roundg k1
                case measure => have := HK1.out; omega
                case rel => exact ⟨(y106), H', ⟨by have := HK1.out; omega⟩, ⟨by (with_reducible repeat (first | apply Kd.V_alloc | apply Kd.V_drewN | apply Kd.V_drew)); exact HO110.out⟩, ⟨by repeat (first | (with_reducible first | exact HB.out | apply below_alloc | apply pw_below_drewN | apply below_drew1) | exact HB.out)⟩⟩
              · rw [if_neg c7] at H
                exact absurd H (by simp)
            · rw [if_neg c6] at H
              have c6b0 : ((rd x0_1 0) == 0) = false := beq_eq_false_iff_ne.mpr c6
              have c6b1 : ((rd x0_1 0) != 0) = true := bne_iff_ne.mpr c6
              have H' := Aside0.mk H
              clear H
              obtain ⟨Ao10, co10, eo10⟩ := Kd.V_slice HO_0.out
              subst eo10
              have p105 : 0 ≤ (0 : Int) := (by omega)
              have q105 : 0 < (x0_1.length : Int) := of_decide_eq_true (by first | (with_reducible assumption) | assumption)
              obtain ⟨ad105, e105, hx105_0⟩ := Kd.at_int (Kd.V_reads' HO_0.out).2.2 0 p105 q105
              cases e105
              have qi105 : (0 < x0_1.length) = True := eq_true (by omega)
              (try rw [show ((0 : Int)).toNat = 0 from rfl] at hx105_0)
              (try rw [Addr.add_zero'] at hx105_0)
              replace p105 := eq_true p105
              replace q105 := eq_true q105
              go_wp2
              go_meet
              case rel => exact ⟨_, (x0_1), H', ⟨by have := HK1.out; first | omega | exact Nat.le_refl _⟩, ⟨by (with_reducible repeat (first | apply Kd.V_alloc | apply Kd.V_drewN | apply Kd.V_drew)); exact HO_0.out⟩, ⟨by repeat (first | (with_reducible first | exact HB.out | apply below_alloc | apply pw_below_drewN | apply below_drew1) | exact HB.out)⟩⟩
          · rw [if_neg c5] at H
            exact absurd H (by simp)
        · rw [if_neg c4] at H
          have c4b0 : decide (0 < (x0_1.length : Int)) = false := decide_eq_false c4
          have c4b1 : decide (0 < x0_1.length) = false := decide_eq_false (by omega)
          clear c4
          (first | rw [c4b0] | (simp only [i64_w, i32_w]; rw [c4b0]) | skip)
          have H' := Aside0.mk H
          clear H
          obtain ⟨Ao11, co11, eo11⟩ := Kd.V_slice HO_0.out
          subst eo11
          go_wp2
          go_meet
          case rel => exact ⟨_, (x0_1), H', ⟨by have := HK1.out; first | omega | exact Nat.le_refl _⟩, ⟨by (with_reducible repeat (first | apply Kd.V_alloc | apply Kd.V_drewN | apply Kd.V_drew)); exact HO_0.out⟩, ⟨by repeat (first | (with_reducible first | exact HB.out | apply below_alloc | apply pw_below_drewN | apply below_drew1) | exact HB.out)⟩⟩
  case rest =>
    clear HC3
    try clear c1
    try clear p1
    try clear q1
    try clear hx1
    try clear qi1
    try clear p2
    try clear c3
    try clear c4
    try clear c4b0
    try clear c4b1
    try clear c5
    try clear c5b0
    try clear c5b1
    try clear c6
    try clear c6b0
    try clear c6b1
    try clear c7
    try clear c7b0
    try clear c7b1
    try clear c9
    try clear q9
    try clear p10
    try clear q10
    try clear hx10
    try clear qi10
    try clear hx105_0
    try clear p105
    try clear p2
    try clear q105
    try clear q9
    obtain ⟨kq, x0_2, HA, HJ2, HO_0, HB⟩ := hcut
    cases kq with
    | zero => exact absurd HA.out (by simp [numtext_exact.j1])
    | succ kj2 =>
      have H := HA.out
      clear HA
      simp only [numtext_exact.j1] at H
      have HC12 := Aside0.mk H
      clear H
      go_upto_block 2 with (fail)
      go_cut [0, 1] (fun v0 v1 wc => ∃ (kq : Nat) (x0_11 : List Int) (x1_11 : Int), v1 = .int .i64 x1_11 ∧ Aside0 (numtext_exact.j3 kq x0_11 x1_11 = some (r1, r2)) ∧ Aside0 (kq ≤ kj2) ∧ Aside0 (Kd.V (Kd.int .u64) 22 wc w.heap.size (fun k_ => (P0_ k_ ∨ w.heap.size ≤ k_)) v0 x0_11) ∧ Aside0 (Below w.heap.size w wc))
      case first =>
        have H := HC12.out
        clear HC12
        have H' := Aside0.mk H
        clear H
        go_wp2
        go_loopg [0, 1] kj2 (fun kq v0 v1 w' => ∃ (x0_2 : List Int) (x1_2 : Int), v1 = .int .i64 x1_2 ∧ Aside0 (numtext_exact.l1 kq x0_2 x1_2 = some (r1, r2)) ∧ Aside0 (kq ≤ kj2) ∧ Aside0 (Kd.V (Kd.int .u64) 22 w' w.heap.size (fun k_ => (P0_ k_ ∨ w.heap.size ≤ k_)) v0 x0_2) ∧ Aside0 (Below w.heap.size w w'))
        case atStart => exact ⟨(x0_2), (a1), (by first | rfl | (simp; done) | (simp [*]; done)), H', ⟨Nat.le_refl _⟩, ⟨by (with_reducible repeat (first | apply Kd.V_alloc | apply Kd.V_drewN | apply Kd.V_drew)); exact HO_0.out⟩, ⟨by repeat (first | (with_reducible first | exact HB.out | apply below_alloc | apply pw_below_drewN | apply below_drew1) | exact HB.out)⟩⟩
        case round =>
          clear H'
          try clear c1
          try clear p1
          try clear q1
          try clear hx1
          try clear qi1
          try clear p2
          try clear c3
          try clear c4
          try clear c4b0
          try clear c4b1
          try clear c5
          try clear c5b0
          try clear c5b1
          try clear c6
          try clear c6b0
          try clear c6b1
          try clear c7
          try clear c7b0
          try clear c7b1
          try clear c9
          try clear q9
          try clear p10
          try clear q10
          try clear hx10
          try clear qi10
          try clear hx105_0
          try clear p1
          try clear p10
          try clear p105
          try clear p2
          try clear q1
          try clear q10
          try clear q105
          try clear q9
          obtain ⟨x0_2, x1_2, rfl, HA, HK2, HO_0, HB⟩ := hrel
          cases gk with
          | zero => exact absurd HA.out (by simp [numtext_exact.l1])
          | succ k2 =>
            have H := HA.out
            clear HA
            simp only [numtext_exact.l1] at H
            by_cases c13 : (x0_2.length : Int) > 0
            · rw [if_pos c13] at H
              have c13b0 : decide (0 < (x0_2.length : Int)) = true := decide_eq_true c13
              have c13b1 : decide (0 < x0_2.length) = true := decide_eq_true (by omega)
              clear c13
              (first | rw [c13b0] | (simp only [i64_w, i32_w]; rw [c13b0]) | skip)
              obtain ⟨ji14, hji14⟩ : ∃ j_ : Int, (wrap64 ((x0_2.length : Int) - 1)) = j_ := ⟨_, rfl⟩
              replace H : (if 0 ≤ (ji14) then (if (ji14) < (x0_2.length : Int) then (if (rd x0_2 (ji14)) = 0 then (if (ji14) ≤ (x0_2.length : Int) then (numtext_exact.l1 k2 (x0_2.take ((ji14) : Int).toNat) (wrap64 (x1_2 + 4))) else (none)) else (numtext_exact.j3 k2 x0_2 x1_2)) else (none)) else (none)) = some (r1, r2) := by first | (rw [hji14] at H; exact H) | (simp only [hji14] at H ⊢; exact H)
              have hji14w : (IntKind.i64.wrap ((x0_2.length : Int) - 1)) = ji14 := (i64_w _).trans hji14
              by_cases c15 : 0 ≤ (ji14)
              · rw [if_pos c15] at H
                have c15b0 : decide (0 ≤ (ji14)) = true := decide_eq_true c15
                clear c15
                by_cases c16 : (ji14) < (x0_2.length : Int)
                · rw [if_pos c16] at H
                  have c16b0 : decide ((ji14) < (x0_2.length : Int)) = true := decide_eq_true c16
                  clear c16
                  by_cases c17 : (rd x0_2 (ji14)) = 0
                  · rw [if_pos c17] at H
                    have c17b0 : ((rd x0_2 (ji14)) == 0) = true := beq_iff_eq.mpr c17
                    have c17b1 : ((rd x0_2 (ji14)) != 0) = false := bne_eq_false_iff_eq.mpr c17
                    clear c17
                    have c18b0 := eq_true (of_decide_eq_true (by first | (with_reducible assumption) | assumption) : 0 ≤ (ji14))
                    by_cases c19 : (ji14) ≤ (x0_2.length : Int)
                    · rw [if_pos c19] at H
                      have c19b0 := eq_true c19
                      have c19b1 : decide ((ji14) ≤ (x0_2.length : Int)) = true := decide_eq_true c19
                      clear c19
                      obtain ⟨y112, hy112⟩ : ∃ y_ : List Int, y_ = (x0_2.take ((ji14) : Int).toNat) := ⟨_, rfl⟩
                      replace H : (numtext_exact.l1 k2 y112 (wrap64 (x1_2 + 4))) = some (r1, r2) := by first | (rw [hy112]; with_reducible exact H) | (have H2_ := (Option.bind_some _ _).symm.trans H; rw [hy112]; with_reducible exact H2_) | (have H2_ := (Option.bind_some _ _).symm.trans H; with_reducible exact H2_) | with_reducible exact H | (rw [hy112]; exact H) | exact H
                      have Ny112 := Aside0.mk hy112
                      clear hy112
                      have H' := Aside0.mk H
                      clear H
                      obtain ⟨Ao20, co20, eo20⟩ := Kd.V_slice HO_0.out
                      subst eo20
                      have p111 : 0 ≤ ((ji14) : Int) := of_decide_eq_true (by first | (with_reducible assumption) | assumption)
                      have q111 : (ji14) < (x0_2.length : Int) := of_decide_eq_true (by first | (with_reducible assumption) | assumption)
                      obtain ⟨ad111, e111, hx111_0⟩ := Kd.at_int (Kd.V_reads' HO_0.out).2.2 (ji14) p111 q111
                      cases e111
                      replace p111 := eq_true p111
                      replace q111 := eq_true q111
                      have q21 : ((ji14) : Int) ≤ ((x0_2.length : Int) : Int) := of_decide_eq_true (by first | (with_reducible assumption) | assumption)
                      obtain ⟨i021, hi021, _, hsz21, _⟩ := info_parts info22
                      have hroom21 : x0_2.length ≤ co20 := (Kd.V_reads' HO_0.out).2.1
                      have hC21 : Kd.F (Kd.int .u64) _ _ (some ad111) x0_2.length x0_2 := (Kd.V_at (base := w.heap.size) HO_0.out).2.2
                      have hcut21 := cut_to (P := Tryd.prog) 48 22 .i64 Tryd.underlying48 hi021 (some ad111) x0_2.length co20 (ji14) (of_decide_eq_true (by first | (with_reducible assumption) | assumption)) q21 hroom21
                      have hr21 := Kd.F_take (m := ((ji14) : Int).toNat) hC21 (by omega)
                      have hy21 : y112.length = ((ji14) : Int).toNat := (by rw [Ny112.out, List.length_take]; omega)
                      rw [← Ny112.out] at hr21
                      rw [← hy21] at hcut21
                      have HO116 := Aside0.mk (show Kd.V (Kd.int .u64) 22 _ w.heap.size _ (.slice (some ad111) y112.length co20) y112 from Kd.V_mk (by omega) hr21)
                      have HC116 := Aside0.mk (show y112.length ≤ co20 from by omega)
                      clear hr21 hC21 hroom21 hi021 hsz21
                      have KY21 := Aside0.mk hy21
                      clear hy21
                      replace q21 := eq_true q21
                      go_wp2
                      go_roundg k2
                      case measure => have := HJ2.out; have := HK2.out; omega
                      case rel => exact ⟨(y112), (wrap64 (x1_2 + 4)), (by first | rfl | (simp; done) | (simp [*]; done)), H', ⟨by have := HJ2.out; have := HK2.out; omega⟩, ⟨by (with_reducible repeat (first | apply Kd.V_alloc | apply Kd.V_drewN | apply Kd.V_drew)); exact HO116.out⟩, ⟨by repeat (first | (with_reducible first | exact HB.out | apply below_alloc | apply pw_below_drewN | apply below_drew1) | exact HB.out)⟩⟩
                    · rw [if_neg c19] at H
                      exact absurd H (by simp)
                  · rw [if_neg c17] at H
                    have c17b0 : ((rd x0_2 (ji14)) == 0) = false := beq_eq_false_iff_ne.mpr c17
                    have c17b1 : ((rd x0_2 (ji14)) != 0) = true := bne_iff_ne.mpr c17
                    have H' := Aside0.mk H
                    clear H
                    obtain ⟨Ao22, co22, eo22⟩ := Kd.V_slice HO_0.out
                    subst eo22
                    have p111 : 0 ≤ ((ji14) : Int) := of_decide_eq_true (by first | (with_reducible assumption) | assumption)
                    have q111 : (ji14) < (x0_2.length : Int) := of_decide_eq_true (by first | (with_reducible assumption) | assumption)
                    obtain ⟨ad111, e111, hx111_0⟩ := Kd.at_int (Kd.V_reads' HO_0.out).2.2 (ji14) p111 q111
                    cases e111
                    replace p111 := eq_true p111
                    replace q111 := eq_true q111
                    go_wp2
                    go_meet
                    case rel => exact ⟨_, (x0_2), (x1_2), (by first | rfl | (simp; done) | (simp [*]; done)), H', ⟨by have := HJ2.out; have := HK2.out; first | omega | exact Nat.le_refl _⟩, ⟨by (with_reducible repeat (first | apply Kd.V_alloc | apply Kd.V_drewN | apply Kd.V_drew)); exact HO_0.out⟩, ⟨by repeat (first | (with_reducible first | exact HB.out | apply below_alloc | apply pw_below_drewN | apply below_drew1) | exact HB.out)⟩⟩
                · rw [if_neg c16] at H
                  exact absurd H (by simp)
              · rw [if_neg c15] at H
                exact absurd H (by simp)
            · rw [if_neg c13] at H
              have c13b0 : decide (0 < (x0_2.length : Int)) = false := decide_eq_false c13
              have c13b1 : decide (0 < x0_2.length) = false := decide_eq_false (by omega)
              clear c13
              (first | rw [c13b0] | (simp only [i64_w, i32_w]; rw [c13b0]) | skip)
              have H' := Aside0.mk H
              clear H
              obtain ⟨Ao23, co23, eo23⟩ := Kd.V_slice HO_0.out
              subst eo23
              go_wp2
              go_meet
              case rel => exact ⟨_, (x0_2), (x1_2), (by first | rfl | (simp; done) | (simp [*]; done)), H', ⟨by have := HJ2.out; have := HK2.out; first | omega | exact Nat.le_refl _⟩, ⟨by (with_reducible repeat (first | apply Kd.V_alloc | apply Kd.V_drewN | apply Kd.V_drew)); exact HO_0.out⟩, ⟨by repeat (first | (with_reducible first | exact HB.out | apply below_alloc | apply pw_below_drewN | apply below_drew1) | exact HB.out)⟩⟩
      case rest =>
        clear HC12
        try clear c1
        try clear p1
        try clear q1
        try clear hx1
        try clear qi1
        try clear p2
        try clear q2
        try clear c3
        try clear c4
        try clear c4b0
        try clear c4b1
        try clear c5
        try clear c5b0
        try clear c5b1
        try clear c6
        try clear c6b0
        try clear c6b1
        try clear p6
        try clear c7
        try clear c7b0
        try clear c7b1
        try clear c9
        try clear q9
        try clear p10
        try clear q10
        try clear hx10
        try clear qi10
        try clear p11
        try clear q11
        try clear hx11
        try clear c13
        try clear c13b0
        try clear c13b1
        try clear c15
        try clear c15b0
        try clear c16
        try clear c16b0
        try clear c17
        try clear c17b0
        try clear c17b1
        try clear c18
        try clear c18b0
        try clear c19
        try clear c19b0
        try clear c19b1
        try clear q21
        try clear hx105_0
        try clear hx111_0
        try clear p1
        try clear p10
        try clear p105
        try clear p111
        try clear p2
        try clear q1
        try clear q10
        try clear q105
        try clear q111
        try clear q21
        try clear q9
        obtain ⟨kq, x0_11, x1_11, rfl, HA, HJ11, HO_0, HB⟩ := hcut
        cases kq with
        | zero => exact absurd HA.out (by simp [numtext_exact.j3])
        | succ kj11 =>
          have H := HA.out
          clear HA
          simp only [numtext_exact.j3] at H
          by_cases c24 : (x0_11.length : Int) = 0
          · rw [if_pos c24] at H
            have c24b0 : ((x0_11.length : Int) == 0) = true := beq_iff_eq.mpr c24
            have c24b1 : ((x0_11.length : Int) != 0) = false := bne_eq_false_iff_eq.mpr c24
            clear c24
            simp only [Option.some.injEq, Prod.mk.injEq] at H
            obtain ⟨rfl, rfl⟩ := H
            obtain ⟨Ao25, co25, eo25⟩ := Kd.V_slice HO_0.out
            subst eo25
            go_wp2
            go_ret2
            exact ⟨by first | rfl | (simp [errW_none, errW_some] <;> rfl) | (simp [*, errW_none, errW_some] <;> rfl), by repeat (first | (with_reducible first | exact HB.out | apply below_alloc | apply pw_below_drewN | apply below_drew1) | exact HB.out)⟩
          · rw [if_neg c24] at H
            have c24b0 : ((x0_11.length : Int) == 0) = false := beq_eq_false_iff_ne.mpr c24
            have c24b1 : ((x0_11.length : Int) != 0) = true := bne_iff_ne.mpr c24
            have c24b2 : ¬ (x0_11 = []) := fun h_ => c24 (by rw [h_]; rfl)
            by_cases c26 : (x0_11.length : Int) > 14
            · rw [if_pos c26] at H
              have c26b0 : decide (14 < (x0_11.length : Int)) = true := decide_eq_true c26
              have c26b1 : decide (14 < x0_11.length) = true := decide_eq_true (by omega)
              clear c26
              simp only [Option.some.injEq, Prod.mk.injEq] at H
              obtain ⟨rfl, rfl⟩ := H
              obtain ⟨Ao27, co27, eo27⟩ := Kd.V_slice HO_0.out
              subst eo27
              go_wp2
              go_ret2
              exact ⟨by first | rfl | (simp [errW_none, errW_some] <;> rfl) | (simp [*, errW_none, errW_some] <;> rfl), by repeat (first | (with_reducible first | exact HB.out | apply below_alloc | apply pw_below_drewN | apply below_drew1) | exact HB.out)⟩
            · rw [if_neg c26] at H
              have c26b0 : decide (14 < (x0_11.length : Int)) = false := decide_eq_false c26
              have c26b1 : decide (14 < x0_11.length) = false := decide_eq_false (by omega)
              clear c26
              have H' := Aside0.mk H
              clear H
              obtain ⟨Ao28, co28, eo28⟩ := Kd.V_slice HO_0.out
              subst eo28
              go_wp2
              go_loopg [6, 50] kj11 (fun kq v6 v50 w' => ∃ (x6_3 : Int) (x50_3 : Int), v6 = .int .u64 x6_3 ∧ v50 = .int .i64 x50_3 ∧ Aside0 (numtext_exact.l2 kq x1_11 x6_3 x0_11 (x0_11.length : Int) x50_3 = some (r1, r2)) ∧ Aside0 (kq ≤ kj11) ∧ Aside0 (Kd.V (Kd.int .u64) 22 w' w.heap.size (fun k_ => (P0_ k_ ∨ w.heap.size ≤ k_)) (.slice Ao28 x0_11.length co28) x0_11) ∧ Aside0 (Below w.heap.size w w'))
              case atStart => exact ⟨(0), (0), (by first | rfl | (simp; done) | (simp [*]; done)), (by first | rfl | (simp; done) | (simp [*]; done)), H', ⟨Nat.le_refl _⟩, ⟨by (with_reducible repeat (first | apply Kd.V_alloc | apply Kd.V_drewN | apply Kd.V_drew)); exact HO_0.out⟩, ⟨by repeat (first | (with_reducible first | exact HB.out | apply below_alloc | apply pw_below_drewN | apply below_drew1) | exact HB.out)⟩⟩
              case round =>
                clear H'
                try clear c1
                try clear p1
                try clear q1
                try clear hx1
                try clear qi1
                try clear c2
                try clear p2
                try clear q2
                try clear c3
                try clear c4
                try clear c4b0
                try clear c4b1
                try clear c5
                try clear c5b0
                try clear c5b1
                try clear c6
                try clear c6b0
                try clear c6b1
                try clear p6
                try clear c7
                try clear c7b0
                try clear c7b1
                try clear c9
                try clear q9
                try clear p10
                try clear q10
                try clear hx10
                try clear qi10
                try clear p11
                try clear q11
                try clear hx11
                try clear c13
                try clear c13b0
                try clear c13b1
                try clear c15
                try clear c15b0
                try clear c16
                try clear c16b0
                try clear c17
                try clear c17b0
                try clear c17b1
                try clear c18
                try clear c18b0
                try clear c19
                try clear c19b0
                try clear c19b1
                try clear q21
                try clear c24
                try clear c24b0
                try clear c24b1
                try clear c24b2
                try clear c26
                try clear c26b0
                try clear c26b1
                try clear hx105_0
                try clear hx111_0
                try clear p1
                try clear p10
                try clear p105
                try clear p11
                try clear p111
                try clear p2
                try clear p6
                try clear q1
                try clear q10
                try clear q105
                try clear q11
                try clear q111
                try clear q2
                try clear q21
                try clear q9
                obtain ⟨x6_3, x50_3, rfl, rfl, HA, HK3, HO_48, HB⟩ := hrel
                cases gk with
                | zero => exact absurd HA.out (by simp [numtext_exact.l2])
                | succ k3 =>
                  have H := HA.out
                  clear HA
                  simp only [numtext_exact.l2] at H
                  by_cases c29 : x50_3 < (x0_11.length : Int)
                  · rw [if_pos c29] at H
                    have c29b0 : decide (x50_3 < (x0_11.length : Int)) = true := decide_eq_true c29
                    clear c29
                    by_cases c30 : 0 ≤ x50_3
                    · rw [if_pos c30] at H
                      have c30b0 : decide (0 ≤ x50_3) = true := decide_eq_true c30
                      clear c30
                      by_cases c31 : x50_3 < (x0_11.length : Int)
                      · rw [if_pos c31] at H
                        have c31b0 : decide (x50_3 < (x0_11.length : Int)) = true := decide_eq_true c31
                        clear c31
                        have H' := Aside0.mk H
                        clear H
                        have p117 : 0 ≤ (x50_3 : Int) := of_decide_eq_true (by first | (with_reducible assumption) | assumption)
                        have q117 : x50_3 < (x0_11.length : Int) := of_decide_eq_true (by first | (with_reducible assumption) | assumption)
                        obtain ⟨ad117, e117, hx117_0⟩ := Kd.at_int (Kd.V_reads' HO_48.out).2.2 x50_3 p117 q117
                        cases e117
                        replace p117 := eq_true p117
                        replace q117 := eq_true q117
                        go_wp2
                        go_roundg k3
                        case measure => have := HJ2.out; have := HJ11.out; have := HK3.out; omega
                        case rel => exact ⟨(Go.bits .or .u64 (IntKind.u64.wrap (x6_3 * 16)) (rd x0_11 x50_3)), (wrap64 (x50_3 + 1)), (by first | rfl | (simp; done) | (simp [*]; done)), (by first | rfl | (simp; done) | (simp [*]; done)), H', ⟨by have := HJ2.out; have := HJ11.out; have := HK3.out; omega⟩, ⟨by (with_reducible repeat (first | apply Kd.V_alloc | apply Kd.V_drewN | apply Kd.V_drew)); exact HO_48.out⟩, ⟨by repeat (first | (with_reducible first | exact HB.out | apply below_alloc | apply pw_below_drewN | apply below_drew1) | exact HB.out)⟩⟩
                      · rw [if_neg c31] at H
                        exact absurd H (by simp)
                    · rw [if_neg c30] at H
                      exact absurd H (by simp)
                  · rw [if_neg c29] at H
                    have c29b0 : decide (x50_3 < (x0_11.length : Int)) = false := decide_eq_false c29
                    clear c29
                    replace H := Option.bind_eq_some_iff.mp H
                    obtain ⟨t118, A320, H⟩ := H
                    replace H : (if 0 ≤ t118 then ((bits_Len64.f (shr .u64 x6_3 t118)).bind fun t119 => (if t119 > 53 then (numtext_exact.j5 k3 (wrap64 (x1_11 + t118)) (shr .u64 x6_3 t118) t119 (wrap64 ((wrap64 ((wrap64 (x1_11 + t118)) + t119)) - 1)) true) else (if (wrap64 ((wrap64 ((wrap64 (x1_11 + t118)) + t119)) - 1)) > 1023 then (numtext_exact.j5 k3 (wrap64 (x1_11 + t118)) (shr .u64 x6_3 t118) t119 (wrap64 ((wrap64 ((wrap64 (x1_11 + t118)) + t119)) - 1)) true) else (numtext_exact.j5 k3 (wrap64 (x1_11 + t118)) (shr .u64 x6_3 t118) t119 (wrap64 ((wrap64 ((wrap64 (x1_11 + t118)) + t119)) - 1)) (decide ((wrap64 (x1_11 + t118)) < (-1074))))))) else (none)) = some (r1, r2) := H
                    have A32 := Aside0.mk A320
                    clear A320
                    by_cases c33 : 0 ≤ t118
                    · rw [if_pos c33] at H
                      have c33b0 := eq_true c33
                      have c33b1 : decide (0 ≤ t118) = true := decide_eq_true c33
                      clear c33
                      obtain ⟨ji34, hji34⟩ : ∃ j_ : Int, (shr .u64 x6_3 t118) = j_ := ⟨_, rfl⟩
                      replace H : ((bits_Len64.f (ji34)).bind fun t119 => (if t119 > 53 then (numtext_exact.j5 k3 (wrap64 (x1_11 + t118)) ji34 t119 (wrap64 ((wrap64 ((wrap64 (x1_11 + t118)) + t119)) - 1)) true) else (if (wrap64 ((wrap64 ((wrap64 (x1_11 + t118)) + t119)) - 1)) > 1023 then (numtext_exact.j5 k3 (wrap64 (x1_11 + t118)) ji34 t119 (wrap64 ((wrap64 ((wrap64 (x1_11 + t118)) + t119)) - 1)) true) else (numtext_exact.j5 k3 (wrap64 (x1_11 + t118)) ji34 t119 (wrap64 ((wrap64 ((wrap64 (x1_11 + t118)) + t119)) - 1)) (decide ((wrap64 (x1_11 + t118)) < (-1074))))))) = some (r1, r2) := by first | (rw [hji34] at H; exact H) | (simp only [hji34] at H ⊢; exact H)
                      (try rw [hji34] at A32)
                      have hji34_ : (x6_3 / 2 ^ min t118.toNat 64) = ji34 := hji34
                      have hji34z : t118 ≤ 64 → (x6_3 / 2 ^ t118.toNat) = ji34 := shr_small hji34
                      replace H := Option.bind_eq_some_iff.mp H
                      obtain ⟨t119, A350, H⟩ := H
                      replace H : (if t119 > 53 then (numtext_exact.j5 k3 (wrap64 (x1_11 + t118)) ji34 t119 (wrap64 ((wrap64 ((wrap64 (x1_11 + t118)) + t119)) - 1)) true) else (if (wrap64 ((wrap64 ((wrap64 (x1_11 + t118)) + t119)) - 1)) > 1023 then (numtext_exact.j5 k3 (wrap64 (x1_11 + t118)) ji34 t119 (wrap64 ((wrap64 ((wrap64 (x1_11 + t118)) + t119)) - 1)) true) else (numtext_exact.j5 k3 (wrap64 (x1_11 + t118)) ji34 t119 (wrap64 ((wrap64 ((wrap64 (x1_11 + t118)) + t119)) - 1)) (decide ((wrap64 (x1_11 + t118)) < (-1074)))))) = some (r1, r2) := H
                      have A35 := Aside0.mk A350
                      clear A350
                      have HC36 := Aside0.mk H
                      clear H
                      go_upto_region 21 with (first | ((with_reducible refine gate_callee (f := 44) rfl ?_); refine goesL_ (some 60) rfl rfl Tryd.func44 (by kernel_rfl) rfl #[.int .u64 x6_3] rfl (by (try simp only [List.map_toArray, List.map_cons, List.map_nil]); first | done | rfl | (simp only [List.length_drop, List.length_take]; rfl)) ?_; (with_reducible refine (bits_TrailingZeros64.calls (hG := (by first | exact Glob.at_ HG0.out (by repeat (first | (with_reducible first | exact HB.out | apply below_alloc | apply pw_below_drewN | apply below_drew1) | exact HB.out)) | exact Glob.at_ HG0.out (Below.refl _ _))) x6_3 t118 _ A32.out).mono ?_); rintro e w37 ⟨rfl, hb⟩; refine ⟨_, rfl, ?_⟩; have n0_ := Aside0.mk (Kd.V_below (by (with_reducible repeat (first | apply Kd.V_alloc | apply Kd.V_drewN | apply Kd.V_drew)); exact HO_48.out) hb); have n1_ := Aside0.mk (below_step (by repeat (first | (with_reducible first | exact HB.out | apply below_alloc | apply pw_below_drewN | apply below_drew1) | exact HB.out)) hb); clear HO_48; clear HB; have HO_48 := n0_; have HB := n1_; clear n0_ n1_; (try clear hb); (try clear hb2); (try clear hk); (try clear hi)) | ((with_reducible refine gate_callee (f := 40) rfl ?_); refine goesL_ (some 68) rfl rfl Tryd.func40 (by kernel_rfl) rfl #[.int .u64 ji34] rfl (by (try simp only [List.map_toArray, List.map_cons, List.map_nil]); first | done | (simp only [hji34]; rfl) | rfl | (simp only [List.length_drop, List.length_take]; rfl)) ?_; (with_reducible refine (bits_Len64.calls ji34 t119 _ A35.out).mono ?_); rintro e w' ⟨rfl, ⟨nd, rfl⟩⟩; refine ⟨_, rfl, ?_⟩))
                      (try simp only [Act.put, List.setIfInBounds_toArray, List.set_cons_zero, List.set_cons_succ])
                      go_cut [73] (fun v73 wc => ∃ (kq : Nat) (x73_35 : Bool), v73 = .bool x73_35 ∧ Aside0 (numtext_exact.j5 kq (wrap64 (x1_11 + t118)) ji34 t119 (wrap64 ((wrap64 ((wrap64 (x1_11 + t118)) + t119)) - 1)) x73_35 = some (r1, r2)) ∧ Aside0 (kq ≤ k3) ∧ Aside0 (Below w.heap.size w wc))
                      case first =>
                        have H := HC36.out
                        clear HC36
                        by_cases c38 : t119 > 53
                        · rw [if_pos c38] at H
                          have c38b0 : decide (53 < t119) = true := decide_eq_true c38
                          clear c38
                          (first | rw [c38b0] | (simp only [i64_w, i32_w]; rw [c38b0]) | skip)
                          have H' := Aside0.mk H
                          clear H
                          go_wp2
                          go_meet
                          case rel => exact ⟨_, (true), (by first | rfl | (simp; done) | (simp [*]; done)), H', ⟨by have := HJ2.out; have := HJ11.out; have := HK3.out; first | omega | exact Nat.le_refl _⟩, ⟨by repeat (first | (with_reducible first | exact HB.out | apply below_alloc | apply pw_below_drewN | apply below_drew1) | exact HB.out)⟩⟩
                        · rw [if_neg c38] at H
                          have c38b0 : decide (53 < t119) = false := decide_eq_false c38
                          clear c38
                          (first | rw [c38b0] | (simp only [i64_w, i32_w]; rw [c38b0]) | skip)
                          by_cases c39 : (wrap64 ((wrap64 ((wrap64 (x1_11 + t118)) + t119)) - 1)) > 1023
                          · rw [if_pos c39] at H
                            have c39b0 : decide (1023 < (wrap64 ((wrap64 ((wrap64 (x1_11 + t118)) + t119)) - 1))) = true := decide_eq_true c39
                            clear c39
                            have H' := Aside0.mk H
                            clear H
                            go_wp2
                            go_meet
                            case rel => exact ⟨_, (true), (by first | rfl | (simp; done) | (simp [*]; done)), H', ⟨by have := HJ2.out; have := HJ11.out; have := HK3.out; first | omega | exact Nat.le_refl _⟩, ⟨by repeat (first | (with_reducible first | exact HB.out | apply below_alloc | apply pw_below_drewN | apply below_drew1) | exact HB.out)⟩⟩
                          · rw [if_neg c39] at H
                            have c39b0 : decide (1023 < (wrap64 ((wrap64 ((wrap64 (x1_11 + t118)) + t119)) - 1))) = false := decide_eq_false c39
                            clear c39
                            have H' := Aside0.mk H
                            clear H
                            go_wp2
                            go_meet
                            case rel => exact ⟨_, (decide ((wrap64 (x1_11 + t118)) < (-1074))), (by first | rfl | (simp; done) | (simp [*]; done)), H', ⟨by have := HJ2.out; have := HJ11.out; have := HK3.out; first | omega | exact Nat.le_refl _⟩, ⟨by repeat (first | (with_reducible first | exact HB.out | apply below_alloc | apply pw_below_drewN | apply below_drew1) | exact HB.out)⟩⟩
                      case rest =>
                        clear HC36
                        try clear c1
                        try clear p1
                        try clear q1
                        try clear hx1
                        try clear qi1
                        try clear c2
                        try clear p2
                        try clear q2
                        try clear c3
                        try clear c4
                        try clear c4b0
                        try clear c4b1
                        try clear c5
                        try clear c5b0
                        try clear c5b1
                        try clear c6
                        try clear c6b0
                        try clear c6b1
                        try clear p6
                        try clear c7
                        try clear c7b0
                        try clear c7b1
                        try clear c9
                        try clear q9
                        try clear p10
                        try clear q10
                        try clear hx10
                        try clear qi10
                        try clear p11
                        try clear q11
                        try clear hx11
                        try clear c13
                        try clear c13b0
                        try clear c13b1
                        try clear c15
                        try clear c15b0
                        try clear c16
                        try clear c16b0
                        try clear c17
                        try clear c17b0
                        try clear c17b1
                        try clear c18
                        try clear c18b0
                        try clear c19
                        try clear c19b0
                        try clear c19b1
                        try clear q21
                        try clear c24
                        try clear c24b0
                        try clear c24b1
                        try clear c24b2
                        try clear c26
                        try clear c26b0
                        try clear c26b1
                        try clear c29
                        try clear c29b0
                        try clear c30
                        try clear c30b0
                        try clear c31
                        try clear c31b0
                        try clear c33
                        try clear c33b0
                        try clear c33b1
                        try clear c38
                        try clear c38b0
                        try clear c39
                        try clear c39b0
                        try clear hx105_0
                        try clear hx111_0
                        try clear hx117_0
                        try clear p1
                        try clear p10
                        try clear p105
                        try clear p11
                        try clear p111
                        try clear p117
                        try clear p2
                        try clear p6
                        try clear q1
                        try clear q10
                        try clear q105
                        try clear q11
                        try clear q111
                        try clear q117
                        try clear q2
                        try clear q21
                        try clear q9
                        obtain ⟨kq, x73_35, rfl, HA, HJ35, HB⟩ := hcut
                        cases kq with
                        | zero => exact absurd HA.out (by simp [numtext_exact.j5])
                        | succ kj35 =>
                          have H := HA.out
                          clear HA
                          simp only [numtext_exact.j5] at H
                          by_cases c40 : x73_35 = true
                          · subst c40
                            have H1 : (some (0, false)) = some (r1, r2) := by rw [if_pos rfl] at H; exact H
                            clear H
                            have H := H1
                            clear H1
                            simp only [Option.some.injEq, Prod.mk.injEq] at H
                            obtain ⟨rfl, rfl⟩ := H
                            go_wp2
                            go_ret2
                            exact ⟨by first | rfl | (simp [errW_none, errW_some] <;> rfl) | (simp only [← hji34]; first | rfl | (simp [errW_none, errW_some] <;> rfl)) | (simp [*, errW_none, errW_some] <;> rfl), by repeat (first | (with_reducible first | exact HB.out | apply below_alloc | apply pw_below_drewN | apply below_drew1) | exact HB.out)⟩
                          · replace c40 := Bool.eq_false_iff.mpr c40
                            subst c40
                            have H1 : (if (wrap64 ((wrap64 ((wrap64 (x1_11 + t118)) + t119)) - 1)) < (-1022) then (if 0 ≤ (wrap64 ((wrap64 (x1_11 + t118)) + 1074)) then (some (shl .u64 ji34 (wrap64 ((wrap64 (x1_11 + t118)) + 1074)), true)) else (none)) else (if 0 ≤ (wrap64 (53 - t119)) then (some (Go.bits .or .u64 (IntKind.u64.wrap ((IntKind.u64.wrap (wrap64 ((wrap64 ((wrap64 ((wrap64 (x1_11 + t118)) + t119)) - 1)) + 1023))) * 4503599627370496)) (Go.bits .and .u64 (shl .u64 ji34 (wrap64 (53 - t119))) 4503599627370495), true)) else (none))) = some (r1, r2) := by rw [if_neg (show ¬ (false = true) by decide)] at H; exact H
                            clear H
                            have H := H1
                            clear H1
                            by_cases c41 : (wrap64 ((wrap64 ((wrap64 (x1_11 + t118)) + t119)) - 1)) < (-1022)
                            · rw [if_pos c41] at H
                              have c41b0 : decide ((wrap64 ((wrap64 ((wrap64 (x1_11 + t118)) + t119)) - 1)) < (-1022)) = true := decide_eq_true c41
                              clear c41
                              obtain ⟨ji42, hji42⟩ : ∃ j_ : Int, (wrap64 ((wrap64 (x1_11 + t118)) + 1074)) = j_ := ⟨_, rfl⟩
                              replace H : (if 0 ≤ (ji42) then (some (shl .u64 ji34 (ji42), true)) else (none)) = some (r1, r2) := by first | (rw [hji42] at H; exact H) | (simp only [hji42] at H ⊢; exact H)
                              have hji42w : (IntKind.i64.wrap ((wrap64 (x1_11 + t118)) + 1074)) = ji42 := (i64_w _).trans hji42
                              by_cases c43 : 0 ≤ (ji42)
                              · rw [if_pos c43] at H
                                have c43b0 := eq_true c43
                                have c43b1 : decide (0 ≤ (ji42)) = true := decide_eq_true c43
                                clear c43
                                obtain ⟨ji44, hji44⟩ : ∃ j_ : Int, (shl .u64 ji34 (ji42)) = j_ := ⟨_, rfl⟩
                                replace H : (some (ji44, true)) = some (r1, r2) := by first | (rw [hji44] at H; exact H) | (simp only [hji44] at H ⊢; exact H)
                                have hji44_ : (IntKind.u64.wrap (ji34 * 2 ^ min (ji42).toNat 64)) = ji44 := hji44
                                have hji44z : (ji42) ≤ 64 → (IntKind.u64.wrap (ji34 * 2 ^ (ji42).toNat)) = ji44 := shl_small hji44
                                simp only [Option.some.injEq, Prod.mk.injEq] at H
                                obtain ⟨rfl, rfl⟩ := H
                                go_wp2
                                go_ret2
                                exact ⟨by first | rfl | (simp [errW_none, errW_some] <;> rfl) | (simp only [← hji34, ← hji42, ← hji44]; first | rfl | (simp [errW_none, errW_some] <;> rfl)) | (simp [*, errW_none, errW_some] <;> rfl), by repeat (first | (with_reducible first | exact HB.out | apply below_alloc | apply pw_below_drewN | apply below_drew1) | exact HB.out)⟩
                              · rw [if_neg c43] at H
                                exact absurd H (by simp)
                            · rw [if_neg c41] at H
                              have c41b0 : decide ((wrap64 ((wrap64 ((wrap64 (x1_11 + t118)) + t119)) - 1)) < (-1022)) = false := decide_eq_false c41
                              clear c41
                              obtain ⟨ji45, hji45⟩ : ∃ j_ : Int, (wrap64 (53 - t119)) = j_ := ⟨_, rfl⟩
                              replace H : (if 0 ≤ (ji45) then (some (Go.bits .or .u64 (IntKind.u64.wrap ((IntKind.u64.wrap (wrap64 ((wrap64 ((wrap64 ((wrap64 (x1_11 + t118)) + t119)) - 1)) + 1023))) * 4503599627370496)) (Go.bits .and .u64 (shl .u64 ji34 (ji45)) 4503599627370495), true)) else (none)) = some (r1, r2) := by first | (rw [hji45] at H; exact H) | (simp only [hji45] at H ⊢; exact H)
                              have hji45w : (IntKind.i64.wrap (53 - t119)) = ji45 := (i64_w _).trans hji45
                              by_cases c46 : 0 ≤ (ji45)
                              · rw [if_pos c46] at H
                                have c46b0 := eq_true c46
                                have c46b1 : decide (0 ≤ (ji45)) = true := decide_eq_true c46
                                clear c46
                                obtain ⟨ji47, hji47⟩ : ∃ j_ : Int, (shl .u64 ji34 (ji45)) = j_ := ⟨_, rfl⟩
                                replace H : (some (Go.bits .or .u64 (IntKind.u64.wrap ((IntKind.u64.wrap (wrap64 ((wrap64 ((wrap64 ((wrap64 (x1_11 + t118)) + t119)) - 1)) + 1023))) * 4503599627370496)) (Go.bits .and .u64 (ji47) 4503599627370495), true)) = some (r1, r2) := by first | (rw [hji47] at H; exact H) | (simp only [hji47] at H ⊢; exact H)
                                have hji47_ : (IntKind.u64.wrap (ji34 * 2 ^ min (ji45).toNat 64)) = ji47 := hji47
                                have hji47z : (ji45) ≤ 64 → (IntKind.u64.wrap (ji34 * 2 ^ (ji45).toNat)) = ji47 := shl_small hji47
                                simp only [Option.some.injEq, Prod.mk.injEq] at H
                                obtain ⟨rfl, rfl⟩ := H
                                go_wp2
                                go_ret2
                                exact ⟨by first | rfl | (simp [errW_none, errW_some] <;> rfl) | (simp only [← hji34, ← hji45, ← hji47]; first | rfl | (simp [errW_none, errW_some] <;> rfl)) | (simp [*, errW_none, errW_some] <;> rfl), by repeat (first | (with_reducible first | exact HB.out | apply below_alloc | apply pw_below_drewN | apply below_drew1) | exact HB.out)⟩
                              · rw [if_neg c46] at H
                                exact absurd H (by simp)
                    · rw [if_neg c33] at H
                      exact absurd H (by simp)

end Go.Proofs.YtjdnneomkocghaaDoor.Print
