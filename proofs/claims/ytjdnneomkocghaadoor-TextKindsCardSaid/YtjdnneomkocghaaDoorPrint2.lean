-- Written by a program of this session (wip/tools/myprint.py, over the kit's print.py). Not trusted: Lean checks it.
import Derived.Test.YtjdnneomkocghaaDoorPrint0
namespace Go.Proofs.YtjdnneomkocghaaDoor.Print
open Go.RowKit Go.Proofs.YtjdnneomkocghaaDoor.Given Go.Proofs.YtjdnneomkocghaaDoorW.PrintWords Go.Proofs.YtjdnneomkocghaaDoorW.PrintLast Go.Proofs.YtjdnneomkocghaaDoorW.PrintMore
attribute [local go_sem] max2_int min2_int max_two min_two max_three min_three max_four min_four   -- for this text's walks alone
set_option linter.unusedVariables false
set_option linter.unusedSimpArgs false

/-! ### casketref1_NaN: function 10 -/
def casketref1_NaN.f (a0 : Int) : Option (Bool) := if (Int.tmod (IntKind.u64.wrap (Int.tdiv a0 4503599627370496)) 2048) = 2047 then (some ((Int.tmod a0 4503599627370496) != 0)) else (some false)
set_option maxHeartbeats 8000000 in
set_option maxRecDepth 100000 in
theorem casketref1_NaN.calls (a0 : Int) (r : Bool) (w : World) (h : casketref1_NaN.f a0 = some r) :
    Calls Tryd.prog 10 #[.int .u64 a0] w fun e w' => e = .returned (.bool r) ∧ Drawn0 w w' := by
  have H : (if (Int.tmod (IntKind.u64.wrap (Int.tdiv a0 4503599627370496)) 2048) = 2047 then (some ((Int.tmod a0 4503599627370496) != 0)) else (some false)) = some r := h
  clear h
  by_cases c2 : (Int.tmod (IntKind.u64.wrap (Int.tdiv a0 4503599627370496)) 2048) = 2047
  · rw [if_pos c2] at H
    have c2b0 : ((Int.tmod (IntKind.u64.wrap (Int.tdiv a0 4503599627370496)) 2048) == 2047) = true := beq_iff_eq.mpr c2
    have c2b1 : ((Int.tmod (IntKind.u64.wrap (Int.tdiv a0 4503599627370496)) 2048) != 2047) = false := bne_eq_false_iff_eq.mpr c2
    clear c2
    obtain rfl := Option.some.inj H
    go_enter Tryd.func10, Tryd.ntmps10
    go_wp2
    go_ret
    exact ⟨by first | rfl | (simp; done) | (simp [*]; done), by repeat (first | exact Drawn0.refl _ | apply Drawn0.step)⟩
  · rw [if_neg c2] at H
    have c2b0 : ((Int.tmod (IntKind.u64.wrap (Int.tdiv a0 4503599627370496)) 2048) == 2047) = false := beq_eq_false_iff_ne.mpr c2
    have c2b1 : ((Int.tmod (IntKind.u64.wrap (Int.tdiv a0 4503599627370496)) 2048) != 2047) = true := bne_iff_ne.mpr c2
    obtain rfl := Option.some.inj H
    go_enter Tryd.func10, Tryd.ntmps10
    go_wp2
    go_ret
    exact ⟨by first | rfl | (simp; done) | (simp [*]; done), by repeat (first | exact Drawn0.refl _ | apply Drawn0.step)⟩

-- GIVEN: function 33 (strconv_FormatInt)

/-! ### numtext_Int: function 15 -/
def numtext_Int.f (a0 : Int) : Option (ByteArray) := (strconv_FormatInt_33.f a0 10).bind fun t101 => (some t101)
set_option maxHeartbeats 8000000 in
set_option maxRecDepth 100000 in
theorem numtext_Int.calls (a0 : Int) (r : ByteArray) (w : World) (hG : Glob w) (h : numtext_Int.f a0 = some r) :
    Calls Tryd.prog 15 #[.int .i64 a0] w fun e w' => e = .returned (.string r) ∧ Below w.heap.size w w' := by
  have HG0 := Aside0.mk hG
  clear hG
  have HB := Aside0.mk (Below.refl w.heap.size w)
  have H : ((strconv_FormatInt_33.f a0 10).bind fun t101 => (some t101)) = some r := h
  clear h
  replace H := Option.bind_eq_some_iff.mp H
  obtain ⟨t101, A20, H⟩ := H
  replace H : (some t101) = some r := H
  have A2 := Aside0.mk A20
  clear A20
  obtain rfl := Option.some.inj H
  go_enter Tryd.func15, Tryd.ntmps15
  go_wp2_with (first | ((with_reducible refine gate_callee (f := 33) rfl ?_); refine goesL_ (some 4) rfl rfl Tryd.func33 (by kernel_rfl) rfl #[.int .i64 a0, .int .i64 10] rfl (by (try simp only [List.map_toArray, List.map_cons, List.map_nil]); first | done | rfl | (simp only [List.length_drop, List.length_take]; rfl)) ?_; (with_reducible refine (strconv_FormatInt_33.calls (hG := (by first | exact Glob.at_ HG0.out (by repeat (first | (with_reducible first | exact HB.out | apply below_alloc | apply pw_below_drewN | apply below_drew1) | exact HB.out)) | exact Glob.at_ HG0.out (Below.refl _ _))) a0 10 t101 _ A2.out).mono ?_); rintro e w3 ⟨rfl, hb⟩; refine ⟨_, rfl, ?_⟩; have n0_ := Aside0.mk (below_step (by repeat (first | (with_reducible first | exact HB.out | apply below_alloc | apply pw_below_drewN | apply below_drew1) | exact HB.out)) hb); clear HB; have HB := n0_; clear n0_; (try clear hb); (try clear hb2); (try clear hk); (try clear hi)))
  go_ret
  exact ⟨by first | rfl | (simp [errW_none, errW_some] <;> rfl) | (simp [*, errW_none, errW_some] <;> rfl), by repeat (first | (with_reducible first | exact HB.out | apply below_alloc | apply pw_below_drewN | apply below_drew1) | exact HB.out)⟩

-- GIVEN: function 25 (bits_LeadingZeros64)

/-! ### numtext_Float: function 11 -/
mutual
def numtext_Float.j0 : Nat → Int → ByteArray → Option (ByteArray)
  | 0, _, _ => none
  | k + 1, x0, x3 => if (wrap64 (Go.bits .and .u64 (x0 / 4503599627370496) 2047)) = 2047 then (numtext_Float.j1 k x3 (Go.bits .and .u64 x0 4503599627370495) (wrap64 (Go.bits .and .u64 (x0 / 4503599627370496) 2047)) ((Go.bits .and .u64 x0 4503599627370495) != 0)) else (numtext_Float.j1 k x3 (Go.bits .and .u64 x0 4503599627370495) (wrap64 (Go.bits .and .u64 (x0 / 4503599627370496) 2047)) false)
def numtext_Float.j3 : Nat → ByteArray → Int → Int → Option (ByteArray)
  | 0, _, _, _ => none
  | k + 1, x3, x4, x5 => if x3.size + 3 ≤ 9223372036854775807 then (if x4 = 0 then (numtext_Float.j4 k x4 x5 (x3 ++ (⟨#[48, 120, 49]⟩ : ByteArray))) else (if (x3 ++ (⟨#[48, 120, 49]⟩ : ByteArray)).size + 1 ≤ 9223372036854775807 then (numtext_Float.j4 k x4 x5 ((x3 ++ (⟨#[48, 120, 49]⟩ : ByteArray)) ++ (⟨#[46]⟩ : ByteArray))) else (none))) else (none)
def numtext_Float.j4 : Nat → Int → Int → ByteArray → Option (ByteArray)
  | 0, _, _, _ => none
  | k + 1, x4, x5, x7 => numtext_Float.l0 k x4 x5 x7
def numtext_Float.l0 : Nat → Int → Int → ByteArray → Option (ByteArray)
  | 0, _, _, _ => none
  | k + 1, x4, x5, x7 => if x4 = 0 then (if x7.size + 1 ≤ 9223372036854775807 then (if (wrap64 (x5 - 1023)) ≥ 0 then (if (x7 ++ (⟨#[112]⟩ : ByteArray)).size + 1 ≤ 9223372036854775807 then ((numtext_Int.f (wrap64 (x5 - 1023))).bind fun t103 => (if ((x7 ++ (⟨#[112]⟩ : ByteArray)) ++ (⟨#[43]⟩ : ByteArray)).size + t103.size ≤ 9223372036854775807 then (some (((x7 ++ (⟨#[112]⟩ : ByteArray)) ++ (⟨#[43]⟩ : ByteArray)) ++ t103)) else (none))) else (none)) else ((numtext_Int.f (wrap64 (x5 - 1023))).bind fun t104 => (if (x7 ++ (⟨#[112]⟩ : ByteArray)).size + t104.size ≤ 9223372036854775807 then (some ((x7 ++ (⟨#[112]⟩ : ByteArray)) ++ t104)) else (none)))) else (none)) else (if 0 ≤ (x4 / 281474976710656) then (if (x4 / 281474976710656) ≤ (IntKind.u64.wrap ((x4 / 281474976710656) + 1)) then (if (IntKind.u64.wrap ((x4 / 281474976710656) + 1)) ≤ 16 then (if x7.size + ((⟨#[48, 49, 50, 51, 52, 53, 54, 55, 56, 57, 97, 98, 99, 100, 101, 102]⟩ : ByteArray).extract ((x4 / 281474976710656) : Int).toNat ((IntKind.u64.wrap ((x4 / 281474976710656) + 1)) : Int).toNat).size ≤ 9223372036854775807 then (numtext_Float.l0 k (Go.bits .and .u64 (IntKind.u64.wrap (x4 * 16)) 4503599627370495) x5 (x7 ++ ((⟨#[48, 49, 50, 51, 52, 53, 54, 55, 56, 57, 97, 98, 99, 100, 101, 102]⟩ : ByteArray).extract ((x4 / 281474976710656) : Int).toNat ((IntKind.u64.wrap ((x4 / 281474976710656) + 1)) : Int).toNat))) else (none)) else (none)) else (none)) else (none))
def numtext_Float.j1 : Nat → ByteArray → Int → Int → Bool → Option (ByteArray)
  | 0, _, _, _, _ => none
  | k + 1, x3, x4, x5, x17 => if x17 = true then (some (⟨#[110, 97, 110]⟩ : ByteArray)) else (if x5 = 2047 then (if x3.size + 3 ≤ 9223372036854775807 then (some (x3 ++ (⟨#[105, 110, 102]⟩ : ByteArray))) else (none)) else (if x5 = 0 then (numtext_Float.j2 k x3 x4 x5 (x4 == 0)) else (numtext_Float.j2 k x3 x4 x5 false)))
def numtext_Float.j2 : Nat → ByteArray → Int → Int → Bool → Option (ByteArray)
  | 0, _, _, _, _ => none
  | k + 1, x3, x4, x5, x29 => if x29 = true then (if x3.size + 6 ≤ 9223372036854775807 then (some (x3 ++ (⟨#[48, 120, 48, 112, 43, 48]⟩ : ByteArray))) else (none)) else (if x5 = 0 then ((bits_LeadingZeros64.f x4).bind fun t102 => (if 0 ≤ (wrap64 (t102 - 11)) then (numtext_Float.j3 k x3 (Go.bits .and .u64 (shl .u64 x4 (wrap64 (t102 - 11))) 4503599627370495) (wrap64 (1 - (wrap64 (t102 - 11))))) else (none))) else (numtext_Float.j3 k x3 x4 x5))
end
def numtext_Float.f (k : Nat) (a0 : Int) : Option (ByteArray) := if (a0 / 9223372036854775808) = 1 then (numtext_Float.j0 k a0 (⟨#[45]⟩ : ByteArray)) else (numtext_Float.j0 k a0 (⟨#[]⟩ : ByteArray))
theorem numtext_Float.mono_l : ∀ k, (∀ y0 y1, LeO (numtext_Float.j0 k y0 y1) (numtext_Float.j0 (k + 1) y0 y1)) ∧ (∀ y0 y1 y2, LeO (numtext_Float.j3 k y0 y1 y2) (numtext_Float.j3 (k + 1) y0 y1 y2)) ∧ (∀ y0 y1 y2, LeO (numtext_Float.j4 k y0 y1 y2) (numtext_Float.j4 (k + 1) y0 y1 y2)) ∧ (∀ y0 y1 y2, LeO (numtext_Float.l0 k y0 y1 y2) (numtext_Float.l0 (k + 1) y0 y1 y2)) ∧ (∀ y0 y1 y2 y3, LeO (numtext_Float.j1 k y0 y1 y2 y3) (numtext_Float.j1 (k + 1) y0 y1 y2 y3)) ∧ (∀ y0 y1 y2 y3, LeO (numtext_Float.j2 k y0 y1 y2 y3) (numtext_Float.j2 (k + 1) y0 y1 y2 y3))
  | 0 => ⟨fun _ _ r h => by simp [numtext_Float.j0] at h, fun _ _ _ r h => by simp [numtext_Float.j3] at h, fun _ _ _ r h => by simp [numtext_Float.j4] at h, fun _ _ _ r h => by simp [numtext_Float.l0] at h, fun _ _ _ _ r h => by simp [numtext_Float.j1] at h, fun _ _ _ _ r h => by simp [numtext_Float.j2] at h⟩
  | k + 1 => by
    obtain ⟨ih0, ih1, ih2, ih3, ih4, ih5⟩ := numtext_Float.mono_l k
    refine ⟨?_, ?_, ?_, ?_, ?_, ?_⟩
    · intro y0 y1
      unfold numtext_Float.j0
      repeat' first
      | (with_reducible exact ih0 _ _)
      | (with_reducible exact ih1 _ _ _)
      | (with_reducible exact ih2 _ _ _)
      | (with_reducible exact ih3 _ _ _)
      | (with_reducible exact ih4 _ _ _ _)
      | (with_reducible exact ih5 _ _ _ _)
      | (with_reducible exact LeO.refl _)
      | (with_reducible exact LeO.none _)
      | (with_reducible refine LeO.ite ?_ ?_)
      | (with_reducible refine LeO.bind ?_ (fun _ => ?_))
      | exact ih0 _ _
      | exact ih1 _ _ _
      | exact ih2 _ _ _
      | exact ih3 _ _ _
      | exact ih4 _ _ _ _
      | exact ih5 _ _ _ _
      | exact LeO.none _
      | refine LeO.ite ?_ ?_
      | refine LeO.bind ?_ (fun _ => ?_)
    · intro y0 y1 y2
      unfold numtext_Float.j3
      repeat' first
      | (with_reducible exact ih0 _ _)
      | (with_reducible exact ih1 _ _ _)
      | (with_reducible exact ih2 _ _ _)
      | (with_reducible exact ih3 _ _ _)
      | (with_reducible exact ih4 _ _ _ _)
      | (with_reducible exact ih5 _ _ _ _)
      | (with_reducible exact LeO.refl _)
      | (with_reducible exact LeO.none _)
      | (with_reducible refine LeO.ite ?_ ?_)
      | (with_reducible refine LeO.bind ?_ (fun _ => ?_))
      | exact ih0 _ _
      | exact ih1 _ _ _
      | exact ih2 _ _ _
      | exact ih3 _ _ _
      | exact ih4 _ _ _ _
      | exact ih5 _ _ _ _
      | exact LeO.none _
      | refine LeO.ite ?_ ?_
      | refine LeO.bind ?_ (fun _ => ?_)
    · intro y0 y1 y2
      unfold numtext_Float.j4
      repeat' first
      | (with_reducible exact ih0 _ _)
      | (with_reducible exact ih1 _ _ _)
      | (with_reducible exact ih2 _ _ _)
      | (with_reducible exact ih3 _ _ _)
      | (with_reducible exact ih4 _ _ _ _)
      | (with_reducible exact ih5 _ _ _ _)
      | (with_reducible exact LeO.refl _)
      | (with_reducible exact LeO.none _)
      | (with_reducible refine LeO.ite ?_ ?_)
      | (with_reducible refine LeO.bind ?_ (fun _ => ?_))
      | exact ih0 _ _
      | exact ih1 _ _ _
      | exact ih2 _ _ _
      | exact ih3 _ _ _
      | exact ih4 _ _ _ _
      | exact ih5 _ _ _ _
      | exact LeO.none _
      | refine LeO.ite ?_ ?_
      | refine LeO.bind ?_ (fun _ => ?_)
    · intro y0 y1 y2
      unfold numtext_Float.l0
      repeat' first
      | (with_reducible exact ih0 _ _)
      | (with_reducible exact ih1 _ _ _)
      | (with_reducible exact ih2 _ _ _)
      | (with_reducible exact ih3 _ _ _)
      | (with_reducible exact ih4 _ _ _ _)
      | (with_reducible exact ih5 _ _ _ _)
      | (with_reducible exact LeO.refl _)
      | (with_reducible exact LeO.none _)
      | (with_reducible refine LeO.ite ?_ ?_)
      | (with_reducible refine LeO.bind ?_ (fun _ => ?_))
      | exact ih0 _ _
      | exact ih1 _ _ _
      | exact ih2 _ _ _
      | exact ih3 _ _ _
      | exact ih4 _ _ _ _
      | exact ih5 _ _ _ _
      | exact LeO.none _
      | refine LeO.ite ?_ ?_
      | refine LeO.bind ?_ (fun _ => ?_)
    · intro y0 y1 y2 y3
      unfold numtext_Float.j1
      repeat' first
      | (with_reducible exact ih0 _ _)
      | (with_reducible exact ih1 _ _ _)
      | (with_reducible exact ih2 _ _ _)
      | (with_reducible exact ih3 _ _ _)
      | (with_reducible exact ih4 _ _ _ _)
      | (with_reducible exact ih5 _ _ _ _)
      | (with_reducible exact LeO.refl _)
      | (with_reducible exact LeO.none _)
      | (with_reducible refine LeO.ite ?_ ?_)
      | (with_reducible refine LeO.bind ?_ (fun _ => ?_))
      | exact ih0 _ _
      | exact ih1 _ _ _
      | exact ih2 _ _ _
      | exact ih3 _ _ _
      | exact ih4 _ _ _ _
      | exact ih5 _ _ _ _
      | exact LeO.none _
      | refine LeO.ite ?_ ?_
      | refine LeO.bind ?_ (fun _ => ?_)
    · intro y0 y1 y2 y3
      unfold numtext_Float.j2
      repeat' first
      | (with_reducible exact ih0 _ _)
      | (with_reducible exact ih1 _ _ _)
      | (with_reducible exact ih2 _ _ _)
      | (with_reducible exact ih3 _ _ _)
      | (with_reducible exact ih4 _ _ _ _)
      | (with_reducible exact ih5 _ _ _ _)
      | (with_reducible exact LeO.refl _)
      | (with_reducible exact LeO.none _)
      | (with_reducible refine LeO.ite ?_ ?_)
      | (with_reducible refine LeO.bind ?_ (fun _ => ?_))
      | exact ih0 _ _
      | exact ih1 _ _ _
      | exact ih2 _ _ _
      | exact ih3 _ _ _
      | exact ih4 _ _ _ _
      | exact ih5 _ _ _ _
      | exact LeO.none _
      | refine LeO.ite ?_ ?_
      | refine LeO.bind ?_ (fun _ => ?_)
theorem numtext_Float.mono : ∀ a0 k, LeO (numtext_Float.f k a0) (numtext_Float.f (k + 1) a0) := by
  intro a0 k
  obtain ⟨ih0, ih1, ih2, ih3, ih4, ih5⟩ := numtext_Float.mono_l k
  unfold numtext_Float.f
  repeat' first
      | (with_reducible exact ih0 _ _)
      | (with_reducible exact ih1 _ _ _)
      | (with_reducible exact ih2 _ _ _)
      | (with_reducible exact ih3 _ _ _)
      | (with_reducible exact ih4 _ _ _ _)
      | (with_reducible exact ih5 _ _ _ _)
      | (with_reducible exact LeO.refl _)
      | (with_reducible exact LeO.none _)
      | (with_reducible refine LeO.ite ?_ ?_)
      | (with_reducible refine LeO.bind ?_ (fun _ => ?_))
      | exact ih0 _ _
      | exact ih1 _ _ _
      | exact ih2 _ _ _
      | exact ih3 _ _ _
      | exact ih4 _ _ _ _
      | exact ih5 _ _ _ _
      | exact LeO.none _
      | refine LeO.ite ?_ ?_
      | refine LeO.bind ?_ (fun _ => ?_)
set_option maxHeartbeats 8000000 in
set_option maxRecDepth 100000 in
theorem numtext_Float.calls (k : Nat) (a0 : Int) (r : ByteArray) (w : World) (hG : Glob w) (h : numtext_Float.f k a0 = some r) :
    Calls Tryd.prog 11 #[.int .u64 a0] w fun e w' => e = .returned (.string r) ∧ Below w.heap.size w w' := by
  have HG0 := Aside0.mk hG
  clear hG
  have HB := Aside0.mk (Below.refl w.heap.size w)
  have H : (if (a0 / 9223372036854775808) = 1 then (numtext_Float.j0 k a0 (⟨#[45]⟩ : ByteArray)) else (numtext_Float.j0 k a0 (⟨#[]⟩ : ByteArray))) = some r := h
  clear h
  have HC2 := Aside0.mk H
  clear H
  go_enter Tryd.func11, Tryd.ntmps11
  go_upto_if 10 with (fail)
  go_cut [3] (fun v3 wc => ∃ (kq : Nat) (x3_1 : ByteArray), v3 = .string x3_1 ∧ Aside0 (numtext_Float.j0 kq a0 x3_1 = some r) ∧ Aside0 (kq ≤ k) ∧ Aside0 (Below w.heap.size w wc))
  case first =>
    have H := HC2.out
    clear HC2
    by_cases c3 : (a0 / 9223372036854775808) = 1
    · rw [if_pos c3] at H
      have c3b0 : ((a0 / 9223372036854775808) == 1) = true := beq_iff_eq.mpr c3
      have c3b1 : ((a0 / 9223372036854775808) != 1) = false := bne_eq_false_iff_eq.mpr c3
      clear c3
      (first | rw [c3b0] | (simp only [i64_w, i32_w]; rw [c3b0]) | skip)
      have H' := Aside0.mk H
      clear H
      go_wp2
      go_meet
      case rel => exact ⟨_, ((⟨#[45]⟩ : ByteArray)), (by first | rfl | (simp; done) | (simp [*]; done)), H', ⟨by first | omega | exact Nat.le_refl _⟩, ⟨by repeat (first | (with_reducible first | exact HB.out | apply below_alloc | apply pw_below_drewN | apply below_drew1) | exact HB.out)⟩⟩
    · rw [if_neg c3] at H
      have c3b0 : ((a0 / 9223372036854775808) == 1) = false := beq_eq_false_iff_ne.mpr c3
      have c3b1 : ((a0 / 9223372036854775808) != 1) = true := bne_iff_ne.mpr c3
      (first | rw [c3b0] | (simp only [i64_w, i32_w]; rw [c3b0]) | skip)
      have H' := Aside0.mk H
      clear H
      go_wp2
      go_meet
      case rel => exact ⟨_, ((⟨#[]⟩ : ByteArray)), (by first | rfl | (simp; done) | (simp [*]; done)), H', ⟨by first | omega | exact Nat.le_refl _⟩, ⟨by repeat (first | (with_reducible first | exact HB.out | apply below_alloc | apply pw_below_drewN | apply below_drew1) | exact HB.out)⟩⟩
  case rest =>
    clear HC2
    try clear c1
    try clear p2
    try clear c3
    try clear c3b0
    try clear c3b1
    obtain ⟨kq, x3_1, rfl, HA, HJ1, HB⟩ := hcut
    cases kq with
    | zero => exact absurd HA.out (by simp [numtext_Float.j0])
    | succ kj1 =>
      have H := HA.out
      clear HA
      simp only [numtext_Float.j0] at H
      have HC4 := Aside0.mk H
      clear H
      go_upto_block 0 with (fail)
      go_cut [4, 5] (fun v4 v5 wc => ∃ (kq : Nat) (x4_3 : Int) (x5_3 : Int), v4 = .int .u64 x4_3 ∧ v5 = .int .i64 x5_3 ∧ Aside0 (numtext_Float.j3 kq x3_1 x4_3 x5_3 = some r) ∧ Aside0 (kq ≤ kj1) ∧ Aside0 (Below w.heap.size w wc))
      case first =>
        have H := HC4.out
        clear HC4
        have HC5 := Aside0.mk H
        clear H
        go_upto_region 5 with (fail)
        go_cut [17] (fun v17 wc => ∃ (kq : Nat) (x17_4 : Bool), v17 = .bool x17_4 ∧ Aside0 (numtext_Float.j1 kq x3_1 (Go.bits .and .u64 a0 4503599627370495) (wrap64 (Go.bits .and .u64 (a0 / 4503599627370496) 2047)) x17_4 = some r) ∧ Aside0 (kq ≤ kj1) ∧ Aside0 (Below w.heap.size w wc))
        case first =>
          have H := HC5.out
          clear HC5
          by_cases c6 : (wrap64 (Go.bits .and .u64 (a0 / 4503599627370496) 2047)) = 2047
          · rw [if_pos c6] at H
            have c6b0 : ((wrap64 (Go.bits .and .u64 (a0 / 4503599627370496) 2047)) == 2047) = true := beq_iff_eq.mpr c6
            have c6b1 : ((wrap64 (Go.bits .and .u64 (a0 / 4503599627370496) 2047)) != 2047) = false := bne_eq_false_iff_eq.mpr c6
            clear c6
            (first | rw [c6b0] | (simp only [i64_w, i32_w]; rw [c6b0]) | skip)
            have H' := Aside0.mk H
            clear H
            go_wp2
            go_meet
            case rel => exact ⟨_, (((Go.bits .and .u64 a0 4503599627370495) != 0)), (by first | rfl | (simp; done) | (simp [*]; done)), H', ⟨by have := HJ1.out; first | omega | exact Nat.le_refl _⟩, ⟨by repeat (first | (with_reducible first | exact HB.out | apply below_alloc | apply pw_below_drewN | apply below_drew1) | exact HB.out)⟩⟩
          · rw [if_neg c6] at H
            have c6b0 : ((wrap64 (Go.bits .and .u64 (a0 / 4503599627370496) 2047)) == 2047) = false := beq_eq_false_iff_ne.mpr c6
            have c6b1 : ((wrap64 (Go.bits .and .u64 (a0 / 4503599627370496) 2047)) != 2047) = true := bne_iff_ne.mpr c6
            (first | rw [c6b0] | (simp only [i64_w, i32_w]; rw [c6b0]) | skip)
            have H' := Aside0.mk H
            clear H
            go_wp2
            go_meet
            case rel => exact ⟨_, (false), (by first | rfl | (simp; done) | (simp [*]; done)), H', ⟨by have := HJ1.out; first | omega | exact Nat.le_refl _⟩, ⟨by repeat (first | (with_reducible first | exact HB.out | apply below_alloc | apply pw_below_drewN | apply below_drew1) | exact HB.out)⟩⟩
        case rest =>
          clear HC5
          try clear c1
          try clear p2
          try clear c3
          try clear c3b0
          try clear c3b1
          try clear c6
          try clear c6b0
          try clear c6b1
          try clear p6
          try clear p2
          obtain ⟨kq, x17_4, rfl, HA, HJ4, HB⟩ := hcut
          cases kq with
          | zero => exact absurd HA.out (by simp [numtext_Float.j1])
          | succ kj4 =>
            have H := HA.out
            clear HA
            simp only [numtext_Float.j1] at H
            by_cases c7 : x17_4 = true
            · subst c7
              have H1 : (some (⟨#[110, 97, 110]⟩ : ByteArray)) = some r := by rw [if_pos rfl] at H; exact H
              clear H
              have H := H1
              clear H1
              obtain rfl := Option.some.inj H
              go_wp2
              go_ret
              exact ⟨by first | rfl | (simp [errW_none, errW_some] <;> rfl) | (simp [*, errW_none, errW_some] <;> rfl), by repeat (first | (with_reducible first | exact HB.out | apply below_alloc | apply pw_below_drewN | apply below_drew1) | exact HB.out)⟩
            · replace c7 := Bool.eq_false_iff.mpr c7
              subst c7
              have H1 : (if (wrap64 (Go.bits .and .u64 (a0 / 4503599627370496) 2047)) = 2047 then (if x3_1.size + 3 ≤ 9223372036854775807 then (some (x3_1 ++ (⟨#[105, 110, 102]⟩ : ByteArray))) else (none)) else (if (wrap64 (Go.bits .and .u64 (a0 / 4503599627370496) 2047)) = 0 then (numtext_Float.j2 kj4 x3_1 (Go.bits .and .u64 a0 4503599627370495) (wrap64 (Go.bits .and .u64 (a0 / 4503599627370496) 2047)) ((Go.bits .and .u64 a0 4503599627370495) == 0)) else (numtext_Float.j2 kj4 x3_1 (Go.bits .and .u64 a0 4503599627370495) (wrap64 (Go.bits .and .u64 (a0 / 4503599627370496) 2047)) false))) = some r := by rw [if_neg (show ¬ (false = true) by decide)] at H; exact H
              clear H
              have H := H1
              clear H1
              by_cases c8 : (wrap64 (Go.bits .and .u64 (a0 / 4503599627370496) 2047)) = 2047
              · rw [if_pos c8] at H
                have c8b0 : ((wrap64 (Go.bits .and .u64 (a0 / 4503599627370496) 2047)) == 2047) = true := beq_iff_eq.mpr c8
                have c8b1 : ((wrap64 (Go.bits .and .u64 (a0 / 4503599627370496) 2047)) != 2047) = false := bne_eq_false_iff_eq.mpr c8
                clear c8
                by_cases c9 : x3_1.size + 3 ≤ 9223372036854775807
                · rw [if_pos c9] at H
                  have c9b0 := eq_true c9
                  have c9b1 : decide (x3_1.size + 3 ≤ 9223372036854775807) = true := decide_eq_true c9
                  try have c9b2 : (9223372036854775807 < x3_1.size + 3) = False := eq_false (Nat.not_lt.2 c9)
                  obtain rfl := Option.some.inj H
                  go_wp2
                  go_ret
                  exact ⟨by first | rfl | (simp [errW_none, errW_some] <;> rfl) | (simp [*, errW_none, errW_some] <;> rfl), by repeat (first | (with_reducible first | exact HB.out | apply below_alloc | apply pw_below_drewN | apply below_drew1) | exact HB.out)⟩
                · rw [if_neg c9] at H
                  exact absurd H (by simp)
              · rw [if_neg c8] at H
                have c8b0 : ((wrap64 (Go.bits .and .u64 (a0 / 4503599627370496) 2047)) == 2047) = false := beq_eq_false_iff_ne.mpr c8
                have c8b1 : ((wrap64 (Go.bits .and .u64 (a0 / 4503599627370496) 2047)) != 2047) = true := bne_iff_ne.mpr c8
                have HC10 := Aside0.mk H
                clear H
                go_upto_region 9 with (fail)
                go_cut [29] (fun v29 wc => ∃ (kq : Nat) (x29_9 : Bool), v29 = .bool x29_9 ∧ Aside0 (numtext_Float.j2 kq x3_1 (Go.bits .and .u64 a0 4503599627370495) (wrap64 (Go.bits .and .u64 (a0 / 4503599627370496) 2047)) x29_9 = some r) ∧ Aside0 (kq ≤ kj4) ∧ Aside0 (Below w.heap.size w wc))
                case first =>
                  have H := HC10.out
                  clear HC10
                  by_cases c11 : (wrap64 (Go.bits .and .u64 (a0 / 4503599627370496) 2047)) = 0
                  · rw [if_pos c11] at H
                    have c11b0 : ((wrap64 (Go.bits .and .u64 (a0 / 4503599627370496) 2047)) == 0) = true := beq_iff_eq.mpr c11
                    have c11b1 : ((wrap64 (Go.bits .and .u64 (a0 / 4503599627370496) 2047)) != 0) = false := bne_eq_false_iff_eq.mpr c11
                    clear c11
                    (first | rw [c11b0] | (simp only [i64_w, i32_w]; rw [c11b0]) | skip)
                    have H' := Aside0.mk H
                    clear H
                    go_wp2
                    go_meet
                    case rel => exact ⟨_, (((Go.bits .and .u64 a0 4503599627370495) == 0)), (by first | rfl | (simp; done) | (simp [*]; done)), H', ⟨by have := HJ1.out; have := HJ4.out; first | omega | exact Nat.le_refl _⟩, ⟨by repeat (first | (with_reducible first | exact HB.out | apply below_alloc | apply pw_below_drewN | apply below_drew1) | exact HB.out)⟩⟩
                  · rw [if_neg c11] at H
                    have c11b0 : ((wrap64 (Go.bits .and .u64 (a0 / 4503599627370496) 2047)) == 0) = false := beq_eq_false_iff_ne.mpr c11
                    have c11b1 : ((wrap64 (Go.bits .and .u64 (a0 / 4503599627370496) 2047)) != 0) = true := bne_iff_ne.mpr c11
                    (first | rw [c11b0] | (simp only [i64_w, i32_w]; rw [c11b0]) | skip)
                    have H' := Aside0.mk H
                    clear H
                    go_wp2
                    go_meet
                    case rel => exact ⟨_, (false), (by first | rfl | (simp; done) | (simp [*]; done)), H', ⟨by have := HJ1.out; have := HJ4.out; first | omega | exact Nat.le_refl _⟩, ⟨by repeat (first | (with_reducible first | exact HB.out | apply below_alloc | apply pw_below_drewN | apply below_drew1) | exact HB.out)⟩⟩
                case rest =>
                  clear HC10
                  try clear c1
                  try clear p2
                  try clear c3
                  try clear c3b0
                  try clear c3b1
                  try clear c6
                  try clear c6b0
                  try clear c6b1
                  try clear p6
                  try clear c7
                  try clear c8
                  try clear c8b0
                  try clear c8b1
                  try clear c9
                  try clear c9b0
                  try clear c9b1
                  try clear c9b2
                  try clear c11
                  try clear c11b0
                  try clear c11b1
                  try clear p2
                  try clear p6
                  obtain ⟨kq, x29_9, rfl, HA, HJ9, HB⟩ := hcut
                  cases kq with
                  | zero => exact absurd HA.out (by simp [numtext_Float.j2])
                  | succ kj9 =>
                    have H := HA.out
                    clear HA
                    simp only [numtext_Float.j2] at H
                    by_cases c12 : x29_9 = true
                    · subst c12
                      have H1 : (if x3_1.size + 6 ≤ 9223372036854775807 then (some (x3_1 ++ (⟨#[48, 120, 48, 112, 43, 48]⟩ : ByteArray))) else (none)) = some r := by rw [if_pos rfl] at H; exact H
                      clear H
                      have H := H1
                      clear H1
                      by_cases c13 : x3_1.size + 6 ≤ 9223372036854775807
                      · rw [if_pos c13] at H
                        have c13b0 := eq_true c13
                        have c13b1 : decide (x3_1.size + 6 ≤ 9223372036854775807) = true := decide_eq_true c13
                        try have c13b2 : (9223372036854775807 < x3_1.size + 6) = False := eq_false (Nat.not_lt.2 c13)
                        obtain rfl := Option.some.inj H
                        go_wp2
                        go_ret
                        exact ⟨by first | rfl | (simp [errW_none, errW_some] <;> rfl) | (simp [*, errW_none, errW_some] <;> rfl), by repeat (first | (with_reducible first | exact HB.out | apply below_alloc | apply pw_below_drewN | apply below_drew1) | exact HB.out)⟩
                      · rw [if_neg c13] at H
                        exact absurd H (by simp)
                    · replace c12 := Bool.eq_false_iff.mpr c12
                      subst c12
                      have H1 : (if (wrap64 (Go.bits .and .u64 (a0 / 4503599627370496) 2047)) = 0 then ((bits_LeadingZeros64.f (Go.bits .and .u64 a0 4503599627370495)).bind fun t102 => (if 0 ≤ (wrap64 (t102 - 11)) then (numtext_Float.j3 kj9 x3_1 (Go.bits .and .u64 (shl .u64 (Go.bits .and .u64 a0 4503599627370495) (wrap64 (t102 - 11))) 4503599627370495) (wrap64 (1 - (wrap64 (t102 - 11))))) else (none))) else (numtext_Float.j3 kj9 x3_1 (Go.bits .and .u64 a0 4503599627370495) (wrap64 (Go.bits .and .u64 (a0 / 4503599627370496) 2047)))) = some r := by rw [if_neg (show ¬ (false = true) by decide)] at H; exact H
                      clear H
                      have H := H1
                      clear H1
                      by_cases c14 : (wrap64 (Go.bits .and .u64 (a0 / 4503599627370496) 2047)) = 0
                      · rw [if_pos c14] at H
                        have c14b0 : ((wrap64 (Go.bits .and .u64 (a0 / 4503599627370496) 2047)) == 0) = true := beq_iff_eq.mpr c14
                        have c14b1 : ((wrap64 (Go.bits .and .u64 (a0 / 4503599627370496) 2047)) != 0) = false := bne_eq_false_iff_eq.mpr c14
                        clear c14
                        replace H := Option.bind_eq_some_iff.mp H
                        obtain ⟨t102, A150, H⟩ := H
                        replace H : (if 0 ≤ (wrap64 (t102 - 11)) then (numtext_Float.j3 kj9 x3_1 (Go.bits .and .u64 (shl .u64 (Go.bits .and .u64 a0 4503599627370495) (wrap64 (t102 - 11))) 4503599627370495) (wrap64 (1 - (wrap64 (t102 - 11))))) else (none)) = some r := H
                        have A15 := Aside0.mk A150
                        clear A150
                        obtain ⟨ji16, hji16⟩ : ∃ j_ : Int, (wrap64 (t102 - 11)) = j_ := ⟨_, rfl⟩
                        replace H : (if 0 ≤ (ji16) then (numtext_Float.j3 kj9 x3_1 (Go.bits .and .u64 (shl .u64 (Go.bits .and .u64 a0 4503599627370495) (ji16)) 4503599627370495) (wrap64 (1 - (ji16)))) else (none)) = some r := by first | (rw [hji16] at H; exact H) | (simp only [hji16] at H ⊢; exact H)
                        (try rw [hji16] at A15)
                        have hji16w : (IntKind.i64.wrap (t102 - 11)) = ji16 := (i64_w _).trans hji16
                        by_cases c17 : 0 ≤ (ji16)
                        · rw [if_pos c17] at H
                          have c17b0 := eq_true c17
                          have c17b1 : decide (0 ≤ (ji16)) = true := decide_eq_true c17
                          clear c17
                          obtain ⟨ji18, hji18⟩ : ∃ j_ : Int, (shl .u64 (Go.bits .and .u64 a0 4503599627370495) (ji16)) = j_ := ⟨_, rfl⟩
                          replace H : (numtext_Float.j3 kj9 x3_1 (Go.bits .and .u64 (ji18) 4503599627370495) (wrap64 (1 - (ji16)))) = some r := by first | (rw [hji18] at H; exact H) | (simp only [hji18] at H ⊢; exact H)
                          (try rw [hji18] at A15)
                          have hji18_ : (IntKind.u64.wrap ((Go.bits .and .u64 a0 4503599627370495) * 2 ^ min (ji16).toNat 64)) = ji18 := hji18
                          have hji18z : (ji16) ≤ 64 → (IntKind.u64.wrap ((Go.bits .and .u64 a0 4503599627370495) * 2 ^ (ji16).toNat)) = ji18 := shl_small hji18
                          have H' := Aside0.mk H
                          clear H
                          go_wp2_with (first | ((with_reducible refine gate_callee (f := 25) rfl ?_); refine goesL_ (some 42) rfl rfl Tryd.func25 (by kernel_rfl) rfl #[.int .u64 (Go.bits .and .u64 a0 4503599627370495)] rfl (by (try simp only [List.map_toArray, List.map_cons, List.map_nil]); first | done | rfl | (simp only [List.length_drop, List.length_take]; rfl)) ?_; (with_reducible refine (bits_LeadingZeros64.calls (Go.bits .and .u64 a0 4503599627370495) t102 _ A15.out).mono ?_); rintro e w' ⟨rfl, ⟨nd, rfl⟩⟩; refine ⟨_, rfl, ?_⟩))
                          go_meet
                          case rel => exact ⟨_, (Go.bits .and .u64 (ji18) 4503599627370495), (wrap64 (1 - (ji16))), (by first | rfl | (simp; done) | (simp only [← hji18] <;> (first | rfl | simp)) | (simp [*]; done)), (by first | rfl | (simp; done) | (simp only [← hji16] <;> (first | rfl | simp)) | (simp [*]; done)), H', ⟨by have := HJ1.out; have := HJ4.out; have := HJ9.out; first | omega | exact Nat.le_refl _⟩, ⟨by repeat (first | (with_reducible first | exact HB.out | apply below_alloc | apply pw_below_drewN | apply below_drew1) | exact HB.out)⟩⟩
                        · rw [if_neg c17] at H
                          exact absurd H (by simp)
                      · rw [if_neg c14] at H
                        have c14b0 : ((wrap64 (Go.bits .and .u64 (a0 / 4503599627370496) 2047)) == 0) = false := beq_eq_false_iff_ne.mpr c14
                        have c14b1 : ((wrap64 (Go.bits .and .u64 (a0 / 4503599627370496) 2047)) != 0) = true := bne_iff_ne.mpr c14
                        have H' := Aside0.mk H
                        clear H
                        go_wp2
                        go_meet
                        case rel => exact ⟨_, ((Go.bits .and .u64 a0 4503599627370495)), ((wrap64 (Go.bits .and .u64 (a0 / 4503599627370496) 2047))), (by first | rfl | (simp; done) | (simp [*]; done)), (by first | rfl | (simp; done) | (simp [*]; done)), H', ⟨by have := HJ1.out; have := HJ4.out; have := HJ9.out; first | omega | exact Nat.le_refl _⟩, ⟨by repeat (first | (with_reducible first | exact HB.out | apply below_alloc | apply pw_below_drewN | apply below_drew1) | exact HB.out)⟩⟩
      case rest =>
        clear HC4
        try clear c1
        try clear c2
        try clear p2
        try clear c3
        try clear c3b0
        try clear c3b1
        try clear c6
        try clear c6b0
        try clear c6b1
        try clear p6
        try clear c7
        try clear c8
        try clear c8b0
        try clear c8b1
        try clear c9
        try clear c9b0
        try clear c9b1
        try clear c9b2
        try clear c11
        try clear c11b0
        try clear c11b1
        try clear c12
        try clear c13
        try clear c13b0
        try clear c13b1
        try clear c13b2
        try clear c14
        try clear c14b0
        try clear c14b1
        try clear c17
        try clear c17b0
        try clear c17b1
        try clear p2
        try clear p6
        obtain ⟨kq, x4_3, x5_3, rfl, rfl, HA, HJ3, HB⟩ := hcut
        cases kq with
        | zero => exact absurd HA.out (by simp [numtext_Float.j3])
        | succ kj3 =>
          have H := HA.out
          clear HA
          simp only [numtext_Float.j3] at H
          by_cases c19 : x3_1.size + 3 ≤ 9223372036854775807
          · rw [if_pos c19] at H
            have c19b0 := eq_true c19
            have c19b1 : decide (x3_1.size + 3 ≤ 9223372036854775807) = true := decide_eq_true c19
            try have c19b2 : (9223372036854775807 < x3_1.size + 3) = False := eq_false (Nat.not_lt.2 c19)
            have HC20 := Aside0.mk H
            clear H
            go_upto_if 53 with (fail)
            go_cut [7] (fun v7 wc => ∃ (kq : Nat) (x7_19 : ByteArray), v7 = .string x7_19 ∧ Aside0 (numtext_Float.j4 kq x4_3 x5_3 x7_19 = some r) ∧ Aside0 (kq ≤ kj3) ∧ Aside0 (Below w.heap.size w wc))
            case first =>
              have H := HC20.out
              clear HC20
              by_cases c21 : x4_3 = 0
              · rw [if_pos c21] at H
                have c21b0 : (x4_3 == 0) = true := beq_iff_eq.mpr c21
                have c21b1 : (x4_3 != 0) = false := bne_eq_false_iff_eq.mpr c21
                clear c21
                (first | rw [c21b0] | (simp only [i64_w, i32_w]; rw [c21b0]) | skip)
                have H' := Aside0.mk H
                clear H
                go_wp2
                go_meet
                case rel => exact ⟨_, (x3_1 ++ (⟨#[48, 120, 49]⟩ : ByteArray)), (by first | rfl | (simp; done) | (simp [*]; done)), H', ⟨by have := HJ1.out; have := HJ3.out; first | omega | exact Nat.le_refl _⟩, ⟨by repeat (first | (with_reducible first | exact HB.out | apply below_alloc | apply pw_below_drewN | apply below_drew1) | exact HB.out)⟩⟩
              · rw [if_neg c21] at H
                have c21b0 : (x4_3 == 0) = false := beq_eq_false_iff_ne.mpr c21
                have c21b1 : (x4_3 != 0) = true := bne_iff_ne.mpr c21
                (first | rw [c21b0] | (simp only [i64_w, i32_w]; rw [c21b0]) | skip)
                by_cases c22 : (x3_1 ++ (⟨#[48, 120, 49]⟩ : ByteArray)).size + 1 ≤ 9223372036854775807
                · rw [if_pos c22] at H
                  have c22b0 := eq_true c22
                  have c22b1 : decide ((x3_1 ++ (⟨#[48, 120, 49]⟩ : ByteArray)).size + 1 ≤ 9223372036854775807) = true := decide_eq_true c22
                  try have c22b2 : (9223372036854775807 < (x3_1 ++ (⟨#[48, 120, 49]⟩ : ByteArray)).size + 1) = False := eq_false (Nat.not_lt.2 c22)
                  try have c22b2s : (9223372036854775807 < x3_1.size + 3 + 1) = False := eq_false (by have h_ := of_eq_false c22b2; simp only [ByteArray.size_append] at h_; exact h_)
                  have H' := Aside0.mk H
                  clear H
                  go_wp2
                  go_meet
                  case rel => exact ⟨_, ((x3_1 ++ (⟨#[48, 120, 49]⟩ : ByteArray)) ++ (⟨#[46]⟩ : ByteArray)), (by first | rfl | (simp; done) | (simp [*]; done)), H', ⟨by have := HJ1.out; have := HJ3.out; first | omega | exact Nat.le_refl _⟩, ⟨by repeat (first | (with_reducible first | exact HB.out | apply below_alloc | apply pw_below_drewN | apply below_drew1) | exact HB.out)⟩⟩
                · rw [if_neg c22] at H
                  exact absurd H (by simp)
            case rest =>
              clear HC20
              try clear c1
              try clear c2
              try clear p2
              try clear c3
              try clear c3b0
              try clear c3b1
              try clear c6
              try clear c6b0
              try clear c6b1
              try clear p6
              try clear c7
              try clear c8
              try clear c8b0
              try clear c8b1
              try clear c9
              try clear c9b0
              try clear c9b1
              try clear c9b2
              try clear c11
              try clear c11b0
              try clear c11b1
              try clear c12
              try clear c13
              try clear c13b0
              try clear c13b1
              try clear c13b2
              try clear c14
              try clear c14b0
              try clear c14b1
              try clear c17
              try clear c17b0
              try clear c17b1
              try clear c19
              try clear c19b0
              try clear c19b1
              try clear c19b2
              try clear c21
              try clear c21b0
              try clear c21b1
              try clear c22
              try clear c22b0
              try clear c22b1
              try clear c22b2
              try clear p2
              try clear p6
              obtain ⟨kq, x7_19, rfl, HA, HJ19, HB⟩ := hcut
              cases kq with
              | zero => exact absurd HA.out (by simp [numtext_Float.j4])
              | succ kj19 =>
                have H := HA.out
                clear HA
                simp only [numtext_Float.j4] at H
                have H' := Aside0.mk H
                clear H
                go_wp2
                go_loopg [4, 7] kj19 (fun kq v4 v7 w' => ∃ (x4_4 : Int) (x7_4 : ByteArray), v4 = .int .u64 x4_4 ∧ v7 = .string x7_4 ∧ Aside0 (numtext_Float.l0 kq x4_4 x5_3 x7_4 = some r) ∧ Aside0 (kq ≤ kj19) ∧ Aside0 (Below w.heap.size w w'))
                case atStart => exact ⟨(x4_3), (x7_19), (by first | rfl | (simp; done) | (simp [*]; done)), (by first | rfl | (simp; done) | (simp [*]; done)), H', ⟨Nat.le_refl _⟩, ⟨by repeat (first | (with_reducible first | exact HB.out | apply below_alloc | apply pw_below_drewN | apply below_drew1) | exact HB.out)⟩⟩
                case round =>
                  clear H'
                  try clear c1
                  try clear c2
                  try clear p2
                  try clear c3
                  try clear c3b0
                  try clear c3b1
                  try clear c6
                  try clear c6b0
                  try clear c6b1
                  try clear p6
                  try clear c7
                  try clear c8
                  try clear c8b0
                  try clear c8b1
                  try clear c9
                  try clear c9b0
                  try clear c9b1
                  try clear c9b2
                  try clear c11
                  try clear c11b0
                  try clear c11b1
                  try clear c12
                  try clear c13
                  try clear c13b0
                  try clear c13b1
                  try clear c13b2
                  try clear c14
                  try clear c14b0
                  try clear c14b1
                  try clear c17
                  try clear c17b0
                  try clear c17b1
                  try clear c19
                  try clear c19b0
                  try clear c19b1
                  try clear c19b2
                  try clear c21
                  try clear c21b0
                  try clear c21b1
                  try clear c22
                  try clear c22b0
                  try clear c22b1
                  try clear c22b2
                  try clear p2
                  try clear p6
                  obtain ⟨x4_4, x7_4, rfl, rfl, HA, HK4, HB⟩ := hrel
                  cases gk with
                  | zero => exact absurd HA.out (by simp [numtext_Float.l0])
                  | succ k4 =>
                    have H := HA.out
                    clear HA
                    simp only [numtext_Float.l0] at H
                    by_cases c23 : x4_4 = 0
                    · rw [if_pos c23] at H
                      have c23b0 : (x4_4 == 0) = true := beq_iff_eq.mpr c23
                      have c23b1 : (x4_4 != 0) = false := bne_eq_false_iff_eq.mpr c23
                      clear c23
                      by_cases c24 : x7_4.size + 1 ≤ 9223372036854775807
                      · rw [if_pos c24] at H
                        have c24b0 := eq_true c24
                        have c24b1 : decide (x7_4.size + 1 ≤ 9223372036854775807) = true := decide_eq_true c24
                        try have c24b2 : (9223372036854775807 < x7_4.size + 1) = False := eq_false (Nat.not_lt.2 c24)
                        by_cases c25 : (wrap64 (x5_3 - 1023)) ≥ 0
                        · rw [if_pos c25] at H
                          have c25b0 : decide (0 ≤ (wrap64 (x5_3 - 1023))) = true := decide_eq_true c25
                          clear c25
                          by_cases c26 : (x7_4 ++ (⟨#[112]⟩ : ByteArray)).size + 1 ≤ 9223372036854775807
                          · rw [if_pos c26] at H
                            have c26b0 := eq_true c26
                            have c26b1 : decide ((x7_4 ++ (⟨#[112]⟩ : ByteArray)).size + 1 ≤ 9223372036854775807) = true := decide_eq_true c26
                            try have c26b2 : (9223372036854775807 < (x7_4 ++ (⟨#[112]⟩ : ByteArray)).size + 1) = False := eq_false (Nat.not_lt.2 c26)
                            try have c26b2s : (9223372036854775807 < x7_4.size + 1 + 1) = False := eq_false (by have h_ := of_eq_false c26b2; simp only [ByteArray.size_append] at h_; exact h_)
                            replace H := Option.bind_eq_some_iff.mp H
                            obtain ⟨t103, A270, H⟩ := H
                            replace H : (if ((x7_4 ++ (⟨#[112]⟩ : ByteArray)) ++ (⟨#[43]⟩ : ByteArray)).size + t103.size ≤ 9223372036854775807 then (some (((x7_4 ++ (⟨#[112]⟩ : ByteArray)) ++ (⟨#[43]⟩ : ByteArray)) ++ t103)) else (none)) = some r := H
                            have A27 := Aside0.mk A270
                            clear A270
                            by_cases c28 : ((x7_4 ++ (⟨#[112]⟩ : ByteArray)) ++ (⟨#[43]⟩ : ByteArray)).size + t103.size ≤ 9223372036854775807
                            · rw [if_pos c28] at H
                              have c28b0 := eq_true c28
                              have c28b1 : decide (((x7_4 ++ (⟨#[112]⟩ : ByteArray)) ++ (⟨#[43]⟩ : ByteArray)).size + t103.size ≤ 9223372036854775807) = true := decide_eq_true c28
                              try have c28b2 : (9223372036854775807 < ((x7_4 ++ (⟨#[112]⟩ : ByteArray)) ++ (⟨#[43]⟩ : ByteArray)).size + t103.size) = False := eq_false (Nat.not_lt.2 c28)
                              try have c28b2s : (9223372036854775807 < x7_4.size + 1 + 1 + t103.size) = False := eq_false (by have h_ := of_eq_false c28b2; simp only [ByteArray.size_append] at h_; exact h_)
                              obtain rfl := Option.some.inj H
                              go_wp2_with (first | ((with_reducible refine gate_callee (f := 15) rfl ?_); refine goesL_ (some 79) rfl rfl Tryd.func15 (by kernel_rfl) rfl #[.int .i64 (wrap64 (x5_3 - 1023))] rfl (by (try simp only [List.map_toArray, List.map_cons, List.map_nil]); first | done | rfl | (simp only [List.length_drop, List.length_take]; rfl)) ?_; (with_reducible refine (numtext_Int.calls (hG := (by first | exact Glob.at_ HG0.out (by repeat (first | (with_reducible first | exact HB.out | apply below_alloc | apply pw_below_drewN | apply below_drew1) | exact HB.out)) | exact Glob.at_ HG0.out (Below.refl _ _))) (wrap64 (x5_3 - 1023)) t103 _ A27.out).mono ?_); rintro e w29 ⟨rfl, hb⟩; refine ⟨_, rfl, ?_⟩; have n0_ := Aside0.mk (below_step (by repeat (first | (with_reducible first | exact HB.out | apply below_alloc | apply pw_below_drewN | apply below_drew1) | exact HB.out)) hb); clear HB; have HB := n0_; clear n0_; (try clear hb); (try clear hb2); (try clear hk); (try clear hi)))
                              go_ret
                              exact ⟨by first | rfl | (simp [errW_none, errW_some] <;> rfl) | (simp [*, errW_none, errW_some] <;> rfl), by repeat (first | (with_reducible first | exact HB.out | apply below_alloc | apply pw_below_drewN | apply below_drew1) | exact HB.out)⟩
                            · rw [if_neg c28] at H
                              exact absurd H (by simp)
                          · rw [if_neg c26] at H
                            exact absurd H (by simp)
                        · rw [if_neg c25] at H
                          have c25b0 : decide (0 ≤ (wrap64 (x5_3 - 1023))) = false := decide_eq_false c25
                          clear c25
                          replace H := Option.bind_eq_some_iff.mp H
                          obtain ⟨t104, A300, H⟩ := H
                          replace H : (if (x7_4 ++ (⟨#[112]⟩ : ByteArray)).size + t104.size ≤ 9223372036854775807 then (some ((x7_4 ++ (⟨#[112]⟩ : ByteArray)) ++ t104)) else (none)) = some r := H
                          have A30 := Aside0.mk A300
                          clear A300
                          by_cases c31 : (x7_4 ++ (⟨#[112]⟩ : ByteArray)).size + t104.size ≤ 9223372036854775807
                          · rw [if_pos c31] at H
                            have c31b0 := eq_true c31
                            have c31b1 : decide ((x7_4 ++ (⟨#[112]⟩ : ByteArray)).size + t104.size ≤ 9223372036854775807) = true := decide_eq_true c31
                            try have c31b2 : (9223372036854775807 < (x7_4 ++ (⟨#[112]⟩ : ByteArray)).size + t104.size) = False := eq_false (Nat.not_lt.2 c31)
                            try have c31b2s : (9223372036854775807 < x7_4.size + 1 + t104.size) = False := eq_false (by have h_ := of_eq_false c31b2; simp only [ByteArray.size_append] at h_; exact h_)
                            obtain rfl := Option.some.inj H
                            go_wp2_with (first | ((with_reducible refine gate_callee (f := 15) rfl ?_); refine goesL_ (some 79) rfl rfl Tryd.func15 (by kernel_rfl) rfl #[.int .i64 (wrap64 (x5_3 - 1023))] rfl (by (try simp only [List.map_toArray, List.map_cons, List.map_nil]); first | done | rfl | (simp only [List.length_drop, List.length_take]; rfl)) ?_; (with_reducible refine (numtext_Int.calls (hG := (by first | exact Glob.at_ HG0.out (by repeat (first | (with_reducible first | exact HB.out | apply below_alloc | apply pw_below_drewN | apply below_drew1) | exact HB.out)) | exact Glob.at_ HG0.out (Below.refl _ _))) (wrap64 (x5_3 - 1023)) t104 _ A30.out).mono ?_); rintro e w32 ⟨rfl, hb⟩; refine ⟨_, rfl, ?_⟩; have n0_ := Aside0.mk (below_step (by repeat (first | (with_reducible first | exact HB.out | apply below_alloc | apply pw_below_drewN | apply below_drew1) | exact HB.out)) hb); clear HB; have HB := n0_; clear n0_; (try clear hb); (try clear hb2); (try clear hk); (try clear hi)))
                            go_ret
                            exact ⟨by first | rfl | (simp [errW_none, errW_some] <;> rfl) | (simp [*, errW_none, errW_some] <;> rfl), by repeat (first | (with_reducible first | exact HB.out | apply below_alloc | apply pw_below_drewN | apply below_drew1) | exact HB.out)⟩
                          · rw [if_neg c31] at H
                            exact absurd H (by simp)
                      · rw [if_neg c24] at H
                        exact absurd H (by simp)
                    · rw [if_neg c23] at H
                      have c23b0 : (x4_4 == 0) = false := beq_eq_false_iff_ne.mpr c23
                      have c23b1 : (x4_4 != 0) = true := bne_iff_ne.mpr c23
                      obtain ⟨ji33, hji33⟩ : ∃ j_ : Int, (x4_4 / 281474976710656) = j_ := ⟨_, rfl⟩
                      replace H : (if 0 ≤ (ji33) then (if (ji33) ≤ (IntKind.u64.wrap ((ji33) + 1)) then (if (IntKind.u64.wrap ((ji33) + 1)) ≤ 16 then (if x7_4.size + ((⟨#[48, 49, 50, 51, 52, 53, 54, 55, 56, 57, 97, 98, 99, 100, 101, 102]⟩ : ByteArray).extract ((ji33) : Int).toNat ((IntKind.u64.wrap ((ji33) + 1)) : Int).toNat).size ≤ 9223372036854775807 then (numtext_Float.l0 k4 (Go.bits .and .u64 (IntKind.u64.wrap (x4_4 * 16)) 4503599627370495) x5_3 (x7_4 ++ ((⟨#[48, 49, 50, 51, 52, 53, 54, 55, 56, 57, 97, 98, 99, 100, 101, 102]⟩ : ByteArray).extract ((ji33) : Int).toNat ((IntKind.u64.wrap ((ji33) + 1)) : Int).toNat))) else (none)) else (none)) else (none)) else (none)) = some r := by first | (rw [hji33] at H; exact H) | (simp only [hji33] at H ⊢; exact H)
                      by_cases c34 : 0 ≤ (ji33)
                      · rw [if_pos c34] at H
                        have c34b0 := eq_true c34
                        have c34b1 : decide (0 ≤ (ji33)) = true := decide_eq_true c34
                        clear c34
                        by_cases c35 : (ji33) ≤ (IntKind.u64.wrap ((ji33) + 1))
                        · rw [if_pos c35] at H
                          have c35b0 := eq_true c35
                          have c35b1 : decide ((ji33) ≤ (IntKind.u64.wrap ((ji33) + 1))) = true := decide_eq_true c35
                          by_cases c36 : (IntKind.u64.wrap ((ji33) + 1)) ≤ 16
                          · rw [if_pos c36] at H
                            have c36b0 := eq_true c36
                            have c36b1 : decide ((IntKind.u64.wrap ((ji33) + 1)) ≤ 16) = true := decide_eq_true c36
                            by_cases c37 : x7_4.size + ((⟨#[48, 49, 50, 51, 52, 53, 54, 55, 56, 57, 97, 98, 99, 100, 101, 102]⟩ : ByteArray).extract ((ji33) : Int).toNat ((IntKind.u64.wrap ((ji33) + 1)) : Int).toNat).size ≤ 9223372036854775807
                            · rw [if_pos c37] at H
                              have c37b0 := eq_true c37
                              have c37b1 : decide (x7_4.size + ((⟨#[48, 49, 50, 51, 52, 53, 54, 55, 56, 57, 97, 98, 99, 100, 101, 102]⟩ : ByteArray).extract ((ji33) : Int).toNat ((IntKind.u64.wrap ((ji33) + 1)) : Int).toNat).size ≤ 9223372036854775807) = true := decide_eq_true c37
                              try have c37b2 : (9223372036854775807 < x7_4.size + ((⟨#[48, 49, 50, 51, 52, 53, 54, 55, 56, 57, 97, 98, 99, 100, 101, 102]⟩ : ByteArray).extract ((ji33) : Int).toNat ((IntKind.u64.wrap ((ji33) + 1)) : Int).toNat).size) = False := eq_false (Nat.not_lt.2 c37)
                              try have c37b2s0 : (9223372036854775807 < x7_4.size + ((⟨#[48, 49, 50, 51, 52, 53, 54, 55, 56, 57, 97, 98, 99, 100, 101, 102]⟩ : ByteArray).extract ((ji33) : Int).toNat ((IntKind.u64.wrap ((ji33) + 1)) : Int).toNat.size)) = False := eq_false (by have h_ := of_eq_false c37b2; simp only [ByteArray.size_append, ByteArray.size_extract] at h_; have := (show (⟨#[48, 49, 50, 51, 52, 53, 54, 55, 56, 57, 97, 98, 99, 100, 101, 102]⟩ : ByteArray).size = 16 from rfl); omega)
                              have H' := Aside0.mk H
                              clear H
                              go_wp2
                              go_roundg k4
                              case measure => have := HJ1.out; have := HJ3.out; have := HJ19.out; have := HK4.out; omega
                              case rel => exact ⟨(Go.bits .and .u64 (IntKind.u64.wrap (x4_4 * 16)) 4503599627370495), (x7_4 ++ ((⟨#[48, 49, 50, 51, 52, 53, 54, 55, 56, 57, 97, 98, 99, 100, 101, 102]⟩ : ByteArray).extract ((ji33) : Int).toNat ((IntKind.u64.wrap ((ji33) + 1)) : Int).toNat)), (by first | rfl | (simp; done) | (simp [*]; done)), (by first | rfl | (simp; done) | (simp only [← hji33] <;> (first | rfl | simp)) | (simp [*]; done)), H', ⟨by have := HJ1.out; have := HJ3.out; have := HJ19.out; have := HK4.out; omega⟩, ⟨by repeat (first | (with_reducible first | exact HB.out | apply below_alloc | apply pw_below_drewN | apply below_drew1) | exact HB.out)⟩⟩
                            · rw [if_neg c37] at H
                              exact absurd H (by simp)
                          · rw [if_neg c36] at H
                            exact absurd H (by simp)
                        · rw [if_neg c35] at H
                          exact absurd H (by simp)
                      · rw [if_neg c34] at H
                        exact absurd H (by simp)
          · rw [if_neg c19] at H
            exact absurd H (by simp)

-- GIVEN: function 26 (strings_CutPrefix)

-- GIVEN: function 27 (numtext_cut)

-- GIVEN: function 28 (numtext_digits)

-- GIVEN: function 29 (strconv_Atoi)

-- GIVEN: function 40 (bits_Len64)

-- GIVEN: function 44 (bits_TrailingZeros64)

end Go.Proofs.YtjdnneomkocghaaDoor.Print
