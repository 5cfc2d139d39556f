-- Written by a program of this session (wip/tools/myprint.py, over the kit's print.py). Not trusted: Lean checks it.
import Derived.Test.YtjdnneomkocghaaDoorPrint0
import Derived.Test.YtjdnneomkocghaaDoorPrint2
import Derived.Test.YtjdnneomkocghaaDoorPrint4
namespace Go.Proofs.YtjdnneomkocghaaDoor.Print
open Go.RowKit Go.Proofs.YtjdnneomkocghaaDoor.Given Go.Proofs.YtjdnneomkocghaaDoorW.PrintWords Go.Proofs.YtjdnneomkocghaaDoorW.PrintLast Go.Proofs.YtjdnneomkocghaaDoorW.PrintMore
attribute [local go_sem] max2_int min2_int max_two min_two max_three min_three max_four min_four   -- for this text's walks alone
set_option linter.unusedVariables false
set_option linter.unusedSimpArgs false

/-! ### casketlaw4_TextShifts: function 3 -/
mutual
def casketlaw4_TextShifts.j0 : Nat → Int → Int → Bool → Option (Bool)
  | 0, _, _, _ => none
  | k + 1, x0, x1, x28 => if x28 = true then (some true) else ((numtext_Float.f k x0).bind fun t155 => (if (t155.size : Int) > 0 then (if 0 < (t155.size : Int) then (casketlaw4_TextShifts.j1 k x0 x1 t155 (⟨#[]⟩ : ByteArray) ((bt t155 0) == 45)) else (none)) else (casketlaw4_TextShifts.j1 k x0 x1 t155 (⟨#[]⟩ : ByteArray) false)))
def casketlaw4_TextShifts.j1 : Nat → Int → Int → ByteArray → ByteArray → Bool → Option (Bool)
  | 0, _, _, _, _, _ => none
  | k + 1, x0, x1, x5, x6, x38 => if x38 = true then (if 1 ≤ (x5.size : Int) then (casketlaw4_TextShifts.j2 k x0 x1 (x5.extract 1 x5.size) (⟨#[45]⟩ : ByteArray)) else (none)) else (casketlaw4_TextShifts.j2 k x0 x1 x5 x6)
def casketlaw4_TextShifts.j2 : Nat → Int → Int → ByteArray → ByteArray → Option (Bool)
  | 0, _, _, _, _ => none
  | k + 1, x0, x1, x5, x6 => if (x5.size : Int) < 6 then (casketlaw4_TextShifts.j3 k x0 x1 x5 x6 true) else (if 0 ≤ 2 then (if 2 ≤ (x5.size : Int) then (casketlaw4_TextShifts.j3 k x0 x1 x5 x6 ((x5.extract 0 2).toList != ([48, 120] : List UInt8))) else (none)) else (none))
def casketlaw4_TextShifts.j3 : Nat → Int → Int → ByteArray → ByteArray → Bool → Option (Bool)
  | 0, _, _, _, _, _ => none
  | k + 1, x0, x1, x5, x6, x48 => if x48 = true then (some false) else (casketlaw4_TextShifts.l0 k x0 x1 x5 x6 (⟨#[]⟩ : ByteArray) 0)
def casketlaw4_TextShifts.l0 : Nat → Int → Int → ByteArray → ByteArray → ByteArray → Int → Option (Bool)
  | 0, _, _, _, _, _, _ => none
  | k + 1, x0, x1, x5, x6, x7, x8 => if x8 < x1 then (if x7.size + 1 ≤ 9223372036854775807 then (casketlaw4_TextShifts.l0 k x0 x1 x5 x6 (x7 ++ (⟨#[48]⟩ : ByteArray)) (wrap64 (x8 + 1))) else (none)) else (if x6.size + 2 ≤ 9223372036854775807 then (if (x6 ++ (⟨#[48, 120]⟩ : ByteArray)).size + x7.size ≤ 9223372036854775807 then (if 2 ≤ (x5.size : Int) then (if ((x6 ++ (⟨#[48, 120]⟩ : ByteArray)) ++ x7).size + (x5.extract 2 x5.size).size ≤ 9223372036854775807 then ((numtext_ParseFloat.f k (((x6 ++ (⟨#[48, 120]⟩ : ByteArray)) ++ x7) ++ (x5.extract 2 x5.size))).bind fun bt156 => (if bt156.1 = x0 then (casketlaw4_TextShifts.j5 k x0 x5 x6 x7 (bt156.2 != 0)) else (casketlaw4_TextShifts.j5 k x0 x5 x6 x7 true))) else (none)) else (none)) else (none)) else (none))
def casketlaw4_TextShifts.j5 : Nat → Int → ByteArray → ByteArray → ByteArray → Bool → Option (Bool)
  | 0, _, _, _, _, _ => none
  | k + 1, x0, x5, x6, x7, x73 => if x73 = true then (some false) else (casketlaw4_TextShifts.l1 k x0 x5 x6 x7 (-1) 0)
def casketlaw4_TextShifts.l1 : Nat → Int → ByteArray → ByteArray → ByteArray → Int → Int → Option (Bool)
  | 0, _, _, _, _, _, _ => none
  | k + 1, x0, x5, x6, x7, x11, x12 => if x12 < (x5.size : Int) then (if 0 ≤ x12 then (if (bt x5 x12) = 112 then (casketlaw4_TextShifts.l1 k x0 x5 x6 x7 x12 (wrap64 (x12 + 1))) else (casketlaw4_TextShifts.l1 k x0 x5 x6 x7 x11 (wrap64 (x12 + 1)))) else (none)) else (if x11 < 0 then (some false) else (if 0 ≤ x11 then (if x11 ≤ (x5.size : Int) then (if ((x5.extract 0 (x11 : Int).toNat).size : Int) = 3 then (if (x5.extract 0 (x11 : Int).toNat).size + 1 ≤ 9223372036854775807 then (if x6.size + ((x5.extract 0 (x11 : Int).toNat) ++ (⟨#[46]⟩ : ByteArray)).size ≤ 9223372036854775807 then (if (x6 ++ ((x5.extract 0 (x11 : Int).toNat) ++ (⟨#[46]⟩ : ByteArray))).size + 1 ≤ 9223372036854775807 then (if ((x6 ++ ((x5.extract 0 (x11 : Int).toNat) ++ (⟨#[46]⟩ : ByteArray))) ++ (⟨#[48]⟩ : ByteArray)).size + x7.size ≤ 9223372036854775807 then (if (((x6 ++ ((x5.extract 0 (x11 : Int).toNat) ++ (⟨#[46]⟩ : ByteArray))) ++ (⟨#[48]⟩ : ByteArray)) ++ x7).size + (x5.extract (x11 : Int).toNat x5.size).size ≤ 9223372036854775807 then ((numtext_ParseFloat.f k ((((x6 ++ ((x5.extract 0 (x11 : Int).toNat) ++ (⟨#[46]⟩ : ByteArray))) ++ (⟨#[48]⟩ : ByteArray)) ++ x7) ++ (x5.extract (x11 : Int).toNat x5.size))).bind fun bt158 => (if bt158.1 = x0 then (if bt158.2 = 0 then ((casketlaw4_awake.f k).bind fun t160 => (some t160)) else (some false)) else (some false))) else (none)) else (none)) else (none)) else (none)) else (none)) else (if x6.size + (x5.extract 0 (x11 : Int).toNat).size ≤ 9223372036854775807 then (if (x6 ++ (x5.extract 0 (x11 : Int).toNat)).size + 1 ≤ 9223372036854775807 then (if ((x6 ++ (x5.extract 0 (x11 : Int).toNat)) ++ (⟨#[48]⟩ : ByteArray)).size + x7.size ≤ 9223372036854775807 then (if (((x6 ++ (x5.extract 0 (x11 : Int).toNat)) ++ (⟨#[48]⟩ : ByteArray)) ++ x7).size + (x5.extract (x11 : Int).toNat x5.size).size ≤ 9223372036854775807 then ((numtext_ParseFloat.f k ((((x6 ++ (x5.extract 0 (x11 : Int).toNat)) ++ (⟨#[48]⟩ : ByteArray)) ++ x7) ++ (x5.extract (x11 : Int).toNat x5.size))).bind fun bt161 => (if bt161.1 = x0 then (if bt161.2 = 0 then ((casketlaw4_awake.f k).bind fun t163 => (some t163)) else (some false)) else (some false))) else (none)) else (none)) else (none)) else (none))) else (none)) else (none)))
end
def casketlaw4_TextShifts.f (k : Nat) (a0 : Int) (a1 : Int) : Option (Bool) := if a1 < 0 then (casketlaw4_TextShifts.j0 k a0 a1 true) else (if a1 > 20 then (casketlaw4_TextShifts.j0 k a0 a1 true) else ((casketref1_NaN.f a0).bind fun t154 => (if t154 = true then (casketlaw4_TextShifts.j0 k a0 a1 true) else (casketlaw4_TextShifts.j0 k a0 a1 ((Go.bits .and .u64 a0 9223372036854775807) == 9218868437227405312)))))
theorem casketlaw4_TextShifts.mono_l : ∀ k, (∀ y0 y1 y2, LeO (casketlaw4_TextShifts.j0 k y0 y1 y2) (casketlaw4_TextShifts.j0 (k + 1) y0 y1 y2)) ∧ (∀ y0 y1 y2 y3 y4, LeO (casketlaw4_TextShifts.j1 k y0 y1 y2 y3 y4) (casketlaw4_TextShifts.j1 (k + 1) y0 y1 y2 y3 y4)) ∧ (∀ y0 y1 y2 y3, LeO (casketlaw4_TextShifts.j2 k y0 y1 y2 y3) (casketlaw4_TextShifts.j2 (k + 1) y0 y1 y2 y3)) ∧ (∀ y0 y1 y2 y3 y4, LeO (casketlaw4_TextShifts.j3 k y0 y1 y2 y3 y4) (casketlaw4_TextShifts.j3 (k + 1) y0 y1 y2 y3 y4)) ∧ (∀ y0 y1 y2 y3 y4 y5, LeO (casketlaw4_TextShifts.l0 k y0 y1 y2 y3 y4 y5) (casketlaw4_TextShifts.l0 (k + 1) y0 y1 y2 y3 y4 y5)) ∧ (∀ y0 y1 y2 y3 y4, LeO (casketlaw4_TextShifts.j5 k y0 y1 y2 y3 y4) (casketlaw4_TextShifts.j5 (k + 1) y0 y1 y2 y3 y4)) ∧ (∀ y0 y1 y2 y3 y4 y5, LeO (casketlaw4_TextShifts.l1 k y0 y1 y2 y3 y4 y5) (casketlaw4_TextShifts.l1 (k + 1) y0 y1 y2 y3 y4 y5))
  | 0 => ⟨fun _ _ _ r h => by simp [casketlaw4_TextShifts.j0] at h, fun _ _ _ _ _ r h => by simp [casketlaw4_TextShifts.j1] at h, fun _ _ _ _ r h => by simp [casketlaw4_TextShifts.j2] at h, fun _ _ _ _ _ r h => by simp [casketlaw4_TextShifts.j3] at h, fun _ _ _ _ _ _ r h => by simp [casketlaw4_TextShifts.l0] at h, fun _ _ _ _ _ r h => by simp [casketlaw4_TextShifts.j5] at h, fun _ _ _ _ _ _ r h => by simp [casketlaw4_TextShifts.l1] at h⟩
  | k + 1 => by
    obtain ⟨ih0, ih1, ih2, ih3, ih4, ih5, ih6⟩ := casketlaw4_TextShifts.mono_l k
    refine ⟨?_, ?_, ?_, ?_, ?_, ?_, ?_⟩
    · intro y0 y1 y2
      unfold casketlaw4_TextShifts.j0
      repeat' first
      | (with_reducible exact ih0 _ _ _)
      | (with_reducible exact ih1 _ _ _ _ _)
      | (with_reducible exact ih2 _ _ _ _)
      | (with_reducible exact ih3 _ _ _ _ _)
      | (with_reducible exact ih4 _ _ _ _ _ _)
      | (with_reducible exact ih5 _ _ _ _ _)
      | (with_reducible exact ih6 _ _ _ _ _ _)
      | (with_reducible exact casketlaw4_awake.mono _)
      | (with_reducible exact numtext_Float.mono _ _)
      | (with_reducible exact numtext_ParseFloat.mono _ _)
      | (with_reducible exact LeO.refl _)
      | (with_reducible exact LeO.none _)
      | (with_reducible refine LeO.ite ?_ ?_)
      | (with_reducible refine LeO.bind ?_ (fun _ => ?_))
      | exact ih0 _ _ _
      | exact ih1 _ _ _ _ _
      | exact ih2 _ _ _ _
      | exact ih3 _ _ _ _ _
      | exact ih4 _ _ _ _ _ _
      | exact ih5 _ _ _ _ _
      | exact ih6 _ _ _ _ _ _
      | exact casketlaw4_awake.mono _
      | exact numtext_Float.mono _ _
      | exact numtext_ParseFloat.mono _ _
      | exact LeO.none _
      | refine LeO.ite ?_ ?_
      | refine LeO.bind ?_ (fun _ => ?_)
    · intro y0 y1 y2 y3 y4
      unfold casketlaw4_TextShifts.j1
      repeat' first
      | (with_reducible exact ih0 _ _ _)
      | (with_reducible exact ih1 _ _ _ _ _)
      | (with_reducible exact ih2 _ _ _ _)
      | (with_reducible exact ih3 _ _ _ _ _)
      | (with_reducible exact ih4 _ _ _ _ _ _)
      | (with_reducible exact ih5 _ _ _ _ _)
      | (with_reducible exact ih6 _ _ _ _ _ _)
      | (with_reducible exact casketlaw4_awake.mono _)
      | (with_reducible exact numtext_Float.mono _ _)
      | (with_reducible exact numtext_ParseFloat.mono _ _)
      | (with_reducible exact LeO.refl _)
      | (with_reducible exact LeO.none _)
      | (with_reducible refine LeO.ite ?_ ?_)
      | (with_reducible refine LeO.bind ?_ (fun _ => ?_))
      | exact ih0 _ _ _
      | exact ih1 _ _ _ _ _
      | exact ih2 _ _ _ _
      | exact ih3 _ _ _ _ _
      | exact ih4 _ _ _ _ _ _
      | exact ih5 _ _ _ _ _
      | exact ih6 _ _ _ _ _ _
      | exact casketlaw4_awake.mono _
      | exact numtext_Float.mono _ _
      | exact numtext_ParseFloat.mono _ _
      | exact LeO.none _
      | refine LeO.ite ?_ ?_
      | refine LeO.bind ?_ (fun _ => ?_)
    · intro y0 y1 y2 y3
      unfold casketlaw4_TextShifts.j2
      repeat' first
      | (with_reducible exact ih0 _ _ _)
      | (with_reducible exact ih1 _ _ _ _ _)
      | (with_reducible exact ih2 _ _ _ _)
      | (with_reducible exact ih3 _ _ _ _ _)
      | (with_reducible exact ih4 _ _ _ _ _ _)
      | (with_reducible exact ih5 _ _ _ _ _)
      | (with_reducible exact ih6 _ _ _ _ _ _)
      | (with_reducible exact casketlaw4_awake.mono _)
      | (with_reducible exact numtext_Float.mono _ _)
      | (with_reducible exact numtext_ParseFloat.mono _ _)
      | (with_reducible exact LeO.refl _)
      | (with_reducible exact LeO.none _)
      | (with_reducible refine LeO.ite ?_ ?_)
      | (with_reducible refine LeO.bind ?_ (fun _ => ?_))
      | exact ih0 _ _ _
      | exact ih1 _ _ _ _ _
      | exact ih2 _ _ _ _
      | exact ih3 _ _ _ _ _
      | exact ih4 _ _ _ _ _ _
      | exact ih5 _ _ _ _ _
      | exact ih6 _ _ _ _ _ _
      | exact casketlaw4_awake.mono _
      | exact numtext_Float.mono _ _
      | exact numtext_ParseFloat.mono _ _
      | exact LeO.none _
      | refine LeO.ite ?_ ?_
      | refine LeO.bind ?_ (fun _ => ?_)
    · intro y0 y1 y2 y3 y4
      unfold casketlaw4_TextShifts.j3
      repeat' first
      | (with_reducible exact ih0 _ _ _)
      | (with_reducible exact ih1 _ _ _ _ _)
      | (with_reducible exact ih2 _ _ _ _)
      | (with_reducible exact ih3 _ _ _ _ _)
      | (with_reducible exact ih4 _ _ _ _ _ _)
      | (with_reducible exact ih5 _ _ _ _ _)
      | (with_reducible exact ih6 _ _ _ _ _ _)
      | (with_reducible exact casketlaw4_awake.mono _)
      | (with_reducible exact numtext_Float.mono _ _)
      | (with_reducible exact numtext_ParseFloat.mono _ _)
      | (with_reducible exact LeO.refl _)
      | (with_reducible exact LeO.none _)
      | (with_reducible refine LeO.ite ?_ ?_)
      | (with_reducible refine LeO.bind ?_ (fun _ => ?_))
      | exact ih0 _ _ _
      | exact ih1 _ _ _ _ _
      | exact ih2 _ _ _ _
      | exact ih3 _ _ _ _ _
      | exact ih4 _ _ _ _ _ _
      | exact ih5 _ _ _ _ _
      | exact ih6 _ _ _ _ _ _
      | exact casketlaw4_awake.mono _
      | exact numtext_Float.mono _ _
      | exact numtext_ParseFloat.mono _ _
      | exact LeO.none _
      | refine LeO.ite ?_ ?_
      | refine LeO.bind ?_ (fun _ => ?_)
    · intro y0 y1 y2 y3 y4 y5
      unfold casketlaw4_TextShifts.l0
      repeat' first
      | (with_reducible exact ih0 _ _ _)
      | (with_reducible exact ih1 _ _ _ _ _)
      | (with_reducible exact ih2 _ _ _ _)
      | (with_reducible exact ih3 _ _ _ _ _)
      | (with_reducible exact ih4 _ _ _ _ _ _)
      | (with_reducible exact ih5 _ _ _ _ _)
      | (with_reducible exact ih6 _ _ _ _ _ _)
      | (with_reducible exact casketlaw4_awake.mono _)
      | (with_reducible exact numtext_Float.mono _ _)
      | (with_reducible exact numtext_ParseFloat.mono _ _)
      | (with_reducible exact LeO.refl _)
      | (with_reducible exact LeO.none _)
      | (with_reducible refine LeO.ite ?_ ?_)
      | (with_reducible refine LeO.bind ?_ (fun _ => ?_))
      | exact ih0 _ _ _
      | exact ih1 _ _ _ _ _
      | exact ih2 _ _ _ _
      | exact ih3 _ _ _ _ _
      | exact ih4 _ _ _ _ _ _
      | exact ih5 _ _ _ _ _
      | exact ih6 _ _ _ _ _ _
      | exact casketlaw4_awake.mono _
      | exact numtext_Float.mono _ _
      | exact numtext_ParseFloat.mono _ _
      | exact LeO.none _
      | refine LeO.ite ?_ ?_
      | refine LeO.bind ?_ (fun _ => ?_)
    · intro y0 y1 y2 y3 y4
      unfold casketlaw4_TextShifts.j5
      repeat' first
      | (with_reducible exact ih0 _ _ _)
      | (with_reducible exact ih1 _ _ _ _ _)
      | (with_reducible exact ih2 _ _ _ _)
      | (with_reducible exact ih3 _ _ _ _ _)
      | (with_reducible exact ih4 _ _ _ _ _ _)
      | (with_reducible exact ih5 _ _ _ _ _)
      | (with_reducible exact ih6 _ _ _ _ _ _)
      | (with_reducible exact casketlaw4_awake.mono _)
      | (with_reducible exact numtext_Float.mono _ _)
      | (with_reducible exact numtext_ParseFloat.mono _ _)
      | (with_reducible exact LeO.refl _)
      | (with_reducible exact LeO.none _)
      | (with_reducible refine LeO.ite ?_ ?_)
      | (with_reducible refine LeO.bind ?_ (fun _ => ?_))
      | exact ih0 _ _ _
      | exact ih1 _ _ _ _ _
      | exact ih2 _ _ _ _
      | exact ih3 _ _ _ _ _
      | exact ih4 _ _ _ _ _ _
      | exact ih5 _ _ _ _ _
      | exact ih6 _ _ _ _ _ _
      | exact casketlaw4_awake.mono _
      | exact numtext_Float.mono _ _
      | exact numtext_ParseFloat.mono _ _
      | exact LeO.none _
      | refine LeO.ite ?_ ?_
      | refine LeO.bind ?_ (fun _ => ?_)
    · intro y0 y1 y2 y3 y4 y5
      unfold casketlaw4_TextShifts.l1
      repeat' first
      | (with_reducible exact ih0 _ _ _)
      | (with_reducible exact ih1 _ _ _ _ _)
      | (with_reducible exact ih2 _ _ _ _)
      | (with_reducible exact ih3 _ _ _ _ _)
      | (with_reducible exact ih4 _ _ _ _ _ _)
      | (with_reducible exact ih5 _ _ _ _ _)
      | (with_reducible exact ih6 _ _ _ _ _ _)
      | (with_reducible exact casketlaw4_awake.mono _)
      | (with_reducible exact numtext_Float.mono _ _)
      | (with_reducible exact numtext_ParseFloat.mono _ _)
      | (with_reducible exact LeO.refl _)
      | (with_reducible exact LeO.none _)
      | (with_reducible refine LeO.ite ?_ ?_)
      | (with_reducible refine LeO.bind ?_ (fun _ => ?_))
      | exact ih0 _ _ _
      | exact ih1 _ _ _ _ _
      | exact ih2 _ _ _ _
      | exact ih3 _ _ _ _ _
      | exact ih4 _ _ _ _ _ _
      | exact ih5 _ _ _ _ _
      | exact ih6 _ _ _ _ _ _
      | exact casketlaw4_awake.mono _
      | exact numtext_Float.mono _ _
      | exact numtext_ParseFloat.mono _ _
      | exact LeO.none _
      | refine LeO.ite ?_ ?_
      | refine LeO.bind ?_ (fun _ => ?_)
theorem casketlaw4_TextShifts.mono : ∀ a0 a1 k, LeO (casketlaw4_TextShifts.f k a0 a1) (casketlaw4_TextShifts.f (k + 1) a0 a1) := by
  intro a0 a1 k
  obtain ⟨ih0, ih1, ih2, ih3, ih4, ih5, ih6⟩ := casketlaw4_TextShifts.mono_l k
  unfold casketlaw4_TextShifts.f
  repeat' first
      | (with_reducible exact ih0 _ _ _)
      | (with_reducible exact ih1 _ _ _ _ _)
      | (with_reducible exact ih2 _ _ _ _)
      | (with_reducible exact ih3 _ _ _ _ _)
      | (with_reducible exact ih4 _ _ _ _ _ _)
      | (with_reducible exact ih5 _ _ _ _ _)
      | (with_reducible exact ih6 _ _ _ _ _ _)
      | (with_reducible exact casketlaw4_awake.mono _)
      | (with_reducible exact numtext_Float.mono _ _)
      | (with_reducible exact numtext_ParseFloat.mono _ _)
      | (with_reducible exact LeO.refl _)
      | (with_reducible exact LeO.none _)
      | (with_reducible refine LeO.ite ?_ ?_)
      | (with_reducible refine LeO.bind ?_ (fun _ => ?_))
      | exact ih0 _ _ _
      | exact ih1 _ _ _ _ _
      | exact ih2 _ _ _ _
      | exact ih3 _ _ _ _ _
      | exact ih4 _ _ _ _ _ _
      | exact ih5 _ _ _ _ _
      | exact ih6 _ _ _ _ _ _
      | exact casketlaw4_awake.mono _
      | exact numtext_Float.mono _ _
      | exact numtext_ParseFloat.mono _ _
      | exact LeO.none _
      | refine LeO.ite ?_ ?_
      | refine LeO.bind ?_ (fun _ => ?_)
set_option maxHeartbeats 8000000 in
set_option maxRecDepth 100000 in
theorem casketlaw4_TextShifts.calls (k : Nat) (a0 : Int) (a1 : Int) (r : Bool) (w : World) (hG : Glob w) (h : casketlaw4_TextShifts.f k a0 a1 = some r) :
    Calls Tryd.prog 3 #[.int .u64 a0, .int .i64 a1] w fun e w' => e = .returned (.bool r) ∧ Below w.heap.size w w' := by
  have HG0 := Aside0.mk hG
  clear hG
  have HB := Aside0.mk (Below.refl w.heap.size w)
  have H : (if a1 < 0 then (casketlaw4_TextShifts.j0 k a0 a1 true) else (if a1 > 20 then (casketlaw4_TextShifts.j0 k a0 a1 true) else ((casketref1_NaN.f a0).bind fun t154 => (if t154 = true then (casketlaw4_TextShifts.j0 k a0 a1 true) else (casketlaw4_TextShifts.j0 k a0 a1 ((Go.bits .and .u64 a0 9223372036854775807) == 9218868437227405312)))))) = some r := h
  clear h
  have HC3 := Aside0.mk H
  clear H
  go_enter Tryd.func3, Tryd.ntmps3
  go_upto_region 1 with (fail)
  go_cut [28] (fun v28 wc => ∃ (kq : Nat) (x28_2 : Bool), v28 = .bool x28_2 ∧ Aside0 (casketlaw4_TextShifts.j0 kq a0 a1 x28_2 = some r) ∧ Aside0 (kq ≤ k) ∧ Aside0 (Below w.heap.size w wc))
  case first =>
    have H := HC3.out
    clear HC3
    by_cases c4 : a1 < 0
    · rw [if_pos c4] at H
      have c4b0 : decide (a1 < 0) = true := decide_eq_true c4
      clear c4
      (first | rw [c4b0] | (simp only [i64_w, i32_w]; rw [c4b0]) | skip)
      have H' := Aside0.mk H
      clear H
      go_wp2
      go_meet
      case rel => exact ⟨_, (true), (by first | rfl | (simp; done) | (simp [*]; done)), H', ⟨by first | omega | exact Nat.le_refl _⟩, ⟨by repeat (first | (with_reducible first | exact HB.out | apply below_alloc | apply pw_below_drewN | apply below_drew1) | exact HB.out)⟩⟩
    · rw [if_neg c4] at H
      have c4b0 : decide (a1 < 0) = false := decide_eq_false c4
      clear c4
      (first | rw [c4b0] | (simp only [i64_w, i32_w]; rw [c4b0]) | skip)
      by_cases c5 : a1 > 20
      · rw [if_pos c5] at H
        have c5b0 : decide (20 < a1) = true := decide_eq_true c5
        clear c5
        have H' := Aside0.mk H
        clear H
        go_wp2
        go_meet
        case rel => exact ⟨_, (true), (by first | rfl | (simp; done) | (simp [*]; done)), H', ⟨by first | omega | exact Nat.le_refl _⟩, ⟨by repeat (first | (with_reducible first | exact HB.out | apply below_alloc | apply pw_below_drewN | apply below_drew1) | exact HB.out)⟩⟩
      · rw [if_neg c5] at H
        have c5b0 : decide (20 < a1) = false := decide_eq_false c5
        clear c5
        replace H := Option.bind_eq_some_iff.mp H
        obtain ⟨t154, A60, H⟩ := H
        replace H : (if t154 = true then (casketlaw4_TextShifts.j0 k a0 a1 true) else (casketlaw4_TextShifts.j0 k a0 a1 ((Go.bits .and .u64 a0 9223372036854775807) == 9218868437227405312))) = some r := H
        have A6 := Aside0.mk A60
        clear A60
        by_cases c7 : t154 = true
        · subst c7
          have H1 : (casketlaw4_TextShifts.j0 k a0 a1 true) = some r := by rw [if_pos rfl] at H; exact H
          clear H
          have H := H1
          clear H1
          have H' := Aside0.mk H
          clear H
          go_wp2_with (first | (go_at_call 10; (with_reducible refine (casketref1_NaN.calls a0 true _ A6.out).mono ?_); rintro e w' ⟨rfl, ⟨nd, rfl⟩⟩))
          go_meet
          case rel => exact ⟨_, (true), (by first | rfl | (simp; done) | (simp [*]; done)), H', ⟨by first | omega | exact Nat.le_refl _⟩, ⟨by repeat (first | (with_reducible first | exact HB.out | apply below_alloc | apply pw_below_drewN | apply below_drew1) | exact HB.out)⟩⟩
        · replace c7 := Bool.eq_false_iff.mpr c7
          subst c7
          have H1 : (casketlaw4_TextShifts.j0 k a0 a1 ((Go.bits .and .u64 a0 9223372036854775807) == 9218868437227405312)) = some r := by rw [if_neg (show ¬ (false = true) by decide)] at H; exact H
          clear H
          have H := H1
          clear H1
          have H' := Aside0.mk H
          clear H
          go_wp2_with (first | (go_at_call 10; (with_reducible refine (casketref1_NaN.calls a0 false _ A6.out).mono ?_); rintro e w' ⟨rfl, ⟨nd, rfl⟩⟩))
          go_meet
          case rel => exact ⟨_, (((Go.bits .and .u64 a0 9223372036854775807) == 9218868437227405312)), (by first | rfl | (simp; done) | (simp [*]; done)), H', ⟨by first | omega | exact Nat.le_refl _⟩, ⟨by repeat (first | (with_reducible first | exact HB.out | apply below_alloc | apply pw_below_drewN | apply below_drew1) | exact HB.out)⟩⟩
  case rest =>
    clear HC3
    try clear p2
    try clear c3
    try clear c4
    try clear c4b0
    try clear c5
    try clear c5b0
    try clear c7
    obtain ⟨kq, x28_2, rfl, HA, HJ2, HB⟩ := hcut
    cases kq with
    | zero => exact absurd HA.out (by simp [casketlaw4_TextShifts.j0])
    | succ kj2 =>
      have H := HA.out
      clear HA
      simp only [casketlaw4_TextShifts.j0] at H
      by_cases c8 : x28_2 = true
      · subst c8
        have H1 : (some true) = some r := by rw [if_pos rfl] at H; exact H
        clear H
        have H := H1
        clear H1
        obtain rfl := Option.some.inj H
        go_wp2
        go_ret
        exact ⟨by first | rfl | (simp [errW_none, errW_some] <;> rfl) | (simp [*, errW_none, errW_some] <;> rfl), by repeat (first | (with_reducible first | exact HB.out | apply below_alloc | apply pw_below_drewN | apply below_drew1) | exact HB.out)⟩
      · replace c8 := Bool.eq_false_iff.mpr c8
        subst c8
        have H1 : ((numtext_Float.f kj2 a0).bind fun t155 => (if (t155.size : Int) > 0 then (if 0 < (t155.size : Int) then (casketlaw4_TextShifts.j1 kj2 a0 a1 t155 (⟨#[]⟩ : ByteArray) ((bt t155 0) == 45)) else (none)) else (casketlaw4_TextShifts.j1 kj2 a0 a1 t155 (⟨#[]⟩ : ByteArray) false))) = some r := by rw [if_neg (show ¬ (false = true) by decide)] at H; exact H
        clear H
        have H := H1
        clear H1
        replace H := Option.bind_eq_some_iff.mp H
        obtain ⟨t155, A90, H⟩ := H
        replace H : (if (t155.size : Int) > 0 then (if 0 < (t155.size : Int) then (casketlaw4_TextShifts.j1 kj2 a0 a1 t155 (⟨#[]⟩ : ByteArray) ((bt t155 0) == 45)) else (none)) else (casketlaw4_TextShifts.j1 kj2 a0 a1 t155 (⟨#[]⟩ : ByteArray) false)) = some r := H
        have A9 := Aside0.mk A90
        clear A90
        have HC10 := Aside0.mk H
        clear H
        go_upto_region 5 with (first | ((with_reducible refine gate_callee (f := 11) rfl ?_); refine goesL_ (some 30) rfl rfl Tryd.func11 (by kernel_rfl) rfl #[.int .u64 a0] rfl (by (try simp only [List.map_toArray, List.map_cons, List.map_nil]); first | done | rfl | (simp only [List.length_drop, List.length_take]; rfl)) ?_; (with_reducible refine (numtext_Float.calls (hG := (by first | exact Glob.at_ HG0.out (by repeat (first | (with_reducible first | exact HB.out | apply below_alloc | apply pw_below_drewN | apply below_drew1) | exact HB.out)) | exact Glob.at_ HG0.out (Below.refl _ _))) kj2 a0 t155 _ A9.out).mono ?_); rintro e w11 ⟨rfl, hb⟩; refine ⟨_, rfl, ?_⟩; have n0_ := Aside0.mk (below_step (by repeat (first | (with_reducible first | exact HB.out | apply below_alloc | apply pw_below_drewN | apply below_drew1) | exact HB.out)) hb); clear HB; have HB := n0_; clear n0_; (try clear hb); (try clear hb2); (try clear hk); (try clear hi)))
        (try simp only [Act.put, List.setIfInBounds_toArray, List.set_cons_zero, List.set_cons_succ])
        go_cut [38] (fun v38 wc => ∃ (kq : Nat) (x38_9 : Bool), v38 = .bool x38_9 ∧ Aside0 (casketlaw4_TextShifts.j1 kq a0 a1 t155 (⟨#[]⟩ : ByteArray) x38_9 = some r) ∧ Aside0 (kq ≤ kj2) ∧ Aside0 (Below w.heap.size w wc))
        case first =>
          have H := HC10.out
          clear HC10
          by_cases c12 : (t155.size : Int) > 0
          · rw [if_pos c12] at H
            have c12b0 : decide (0 < (t155.size : Int)) = true := decide_eq_true c12
            have c12b1 : decide (0 < t155.size) = true := decide_eq_true (by omega)
            clear c12
            (first | rw [c12b0] | (simp only [i64_w, i32_w]; rw [c12b0]) | skip)
            by_cases c13 : 0 < (t155.size : Int)
            · rw [if_pos c13] at H
              have c13b0 : decide (0 < (t155.size : Int)) = true := decide_eq_true c13
              have c13b1 : decide (0 < t155.size) = true := decide_eq_true (by omega)
              clear c13
              have H' := Aside0.mk H
              clear H
              have p14 : 0 ≤ (0 : Int) := (by omega)
              have q14 : 0 < t155.size := (by have : (0 : Int) < (t155.size : Int) := of_decide_eq_true (by first | (with_reducible assumption) | assumption); omega)
              have hx14 : ∀ h : 0 < t155.size, ((t155[0]'h).toNat : Int) = bt t155 0 := bt_at t155 0
              clear p14
              have qi14 : (0 < (t155.size : Int)) = True := eq_true (of_decide_eq_true (by first | (with_reducible assumption) | assumption))
              replace q14 := eq_true q14
              go_wp2
              go_meet
              case rel => exact ⟨_, (((bt t155 0) == 45)), (by first | rfl | (simp; done) | (simp [*]; done)), H', ⟨by have := HJ2.out; first | omega | exact Nat.le_refl _⟩, ⟨by repeat (first | (with_reducible first | exact HB.out | apply below_alloc | apply pw_below_drewN | apply below_drew1) | exact HB.out)⟩⟩
            · rw [if_neg c13] at H
              exact absurd H (by simp)
          · rw [if_neg c12] at H
            have c12b0 : decide (0 < (t155.size : Int)) = false := decide_eq_false c12
            have c12b1 : decide (0 < t155.size) = false := decide_eq_false (by omega)
            clear c12
            (first | rw [c12b0] | (simp only [i64_w, i32_w]; rw [c12b0]) | skip)
            have H' := Aside0.mk H
            clear H
            go_wp2
            go_meet
            case rel => exact ⟨_, (false), (by first | rfl | (simp; done) | (simp [*]; done)), H', ⟨by have := HJ2.out; first | omega | exact Nat.le_refl _⟩, ⟨by repeat (first | (with_reducible first | exact HB.out | apply below_alloc | apply pw_below_drewN | apply below_drew1) | exact HB.out)⟩⟩
        case rest =>
          clear HC10
          try clear c1
          try clear p1
          try clear q1
          try clear hx1
          try clear qi1
          try clear p2
          try clear c3
          try clear c4
          try clear c4b0
          try clear c5
          try clear c5b0
          try clear c7
          try clear c8
          try clear c11
          try clear c12
          try clear c12b0
          try clear c12b1
          try clear c13
          try clear c13b0
          try clear c13b1
          try clear p14
          try clear q14
          try clear hx14
          try clear qi14
          try clear p14
          try clear p2
          try clear q14
          obtain ⟨kq, x38_9, rfl, HA, HJ9, HB⟩ := hcut
          cases kq with
          | zero => exact absurd HA.out (by simp [casketlaw4_TextShifts.j1])
          | succ kj9 =>
            have H := HA.out
            clear HA
            simp only [casketlaw4_TextShifts.j1] at H
            have HC15 := Aside0.mk H
            clear H
            go_upto_if 38 with (fail)
            go_cut [5, 6] (fun v5 v6 wc => ∃ (kq : Nat) (x5_14 : ByteArray) (x6_14 : ByteArray), v5 = .string x5_14 ∧ v6 = .string x6_14 ∧ Aside0 (casketlaw4_TextShifts.j2 kq a0 a1 x5_14 x6_14 = some r) ∧ Aside0 (kq ≤ kj9) ∧ Aside0 (Below w.heap.size w wc))
            case first =>
              have H := HC15.out
              clear HC15
              by_cases c16 : x38_9 = true
              · subst c16
                have H1 : (if 1 ≤ (t155.size : Int) then (casketlaw4_TextShifts.j2 kj9 a0 a1 (t155.extract 1 t155.size) (⟨#[45]⟩ : ByteArray)) else (none)) = some r := by rw [if_pos rfl] at H; exact H
                clear H
                have H := H1
                clear H1
                by_cases c17 : 1 ≤ (t155.size : Int)
                · rw [if_pos c17] at H
                  have c17b0 := eq_true c17
                  have c17b1 : decide (1 ≤ (t155.size : Int)) = true := decide_eq_true c17
                  clear c17
                  have H' := Aside0.mk H
                  clear H
                  go_wp2
                  go_meet
                  case rel => exact ⟨_, (t155.extract 1 t155.size), ((⟨#[45]⟩ : ByteArray)), (by first | rfl | (simp; done) | (simp [*]; done)), (by first | rfl | (simp; done) | (simp [*]; done)), H', ⟨by have := HJ2.out; have := HJ9.out; first | omega | exact Nat.le_refl _⟩, ⟨by repeat (first | (with_reducible first | exact HB.out | apply below_alloc | apply pw_below_drewN | apply below_drew1) | exact HB.out)⟩⟩
                · rw [if_neg c17] at H
                  exact absurd H (by simp)
              · replace c16 := Bool.eq_false_iff.mpr c16
                subst c16
                have H1 : (casketlaw4_TextShifts.j2 kj9 a0 a1 t155 (⟨#[]⟩ : ByteArray)) = some r := by rw [if_neg (show ¬ (false = true) by decide)] at H; exact H
                clear H
                have H := H1
                clear H1
                have H' := Aside0.mk H
                clear H
                go_wp2
                go_meet
                case rel => exact ⟨_, (t155), ((⟨#[]⟩ : ByteArray)), (by first | rfl | (simp; done) | (simp [*]; done)), (by first | rfl | (simp; done) | (simp [*]; done)), H', ⟨by have := HJ2.out; have := HJ9.out; first | omega | exact Nat.le_refl _⟩, ⟨by repeat (first | (with_reducible first | exact HB.out | apply below_alloc | apply pw_below_drewN | apply below_drew1) | exact HB.out)⟩⟩
            case rest =>
              clear HC15
              try clear c1
              try clear p1
              try clear q1
              try clear hx1
              try clear qi1
              try clear p2
              try clear c3
              try clear c4
              try clear c4b0
              try clear c5
              try clear c5b0
              try clear c7
              try clear c8
              try clear c11
              try clear c12
              try clear c12b0
              try clear c12b1
              try clear c13
              try clear c13b0
              try clear c13b1
              try clear p14
              try clear q14
              try clear hx14
              try clear qi14
              try clear c16
              try clear c17
              try clear c17b0
              try clear c17b1
              try clear p1
              try clear p14
              try clear p2
              try clear q1
              try clear q14
              obtain ⟨kq, x5_14, x6_14, rfl, rfl, HA, HJ14, HB⟩ := hcut
              cases kq with
              | zero => exact absurd HA.out (by simp [casketlaw4_TextShifts.j2])
              | succ kj14 =>
                have H := HA.out
                clear HA
                simp only [casketlaw4_TextShifts.j2] at H
                have HC18 := Aside0.mk H
                clear H
                go_upto_region 8 with (fail)
                go_cut [48] (fun v48 wc => ∃ (kq : Nat) (x48_17 : Bool), v48 = .bool x48_17 ∧ Aside0 (casketlaw4_TextShifts.j3 kq a0 a1 x5_14 x6_14 x48_17 = some r) ∧ Aside0 (kq ≤ kj14) ∧ Aside0 (Below w.heap.size w wc))
                case first =>
                  have H := HC18.out
                  clear HC18
                  by_cases c19 : (x5_14.size : Int) < 6
                  · rw [if_pos c19] at H
                    have c19b0 : decide ((x5_14.size : Int) < 6) = true := decide_eq_true c19
                    have c19b1 : decide (x5_14.size < 6) = true := decide_eq_true (by omega)
                    clear c19
                    (first | rw [c19b0] | (simp only [i64_w, i32_w]; rw [c19b0]) | skip)
                    have H' := Aside0.mk H
                    clear H
                    go_wp2
                    go_meet
                    case rel => exact ⟨_, (true), (by first | rfl | (simp; done) | (simp [*]; done)), H', ⟨by have := HJ2.out; have := HJ9.out; have := HJ14.out; first | omega | exact Nat.le_refl _⟩, ⟨by repeat (first | (with_reducible first | exact HB.out | apply below_alloc | apply pw_below_drewN | apply below_drew1) | exact HB.out)⟩⟩
                  · rw [if_neg c19] at H
                    have c19b0 : decide ((x5_14.size : Int) < 6) = false := decide_eq_false c19
                    have c19b1 : decide (x5_14.size < 6) = false := decide_eq_false (by omega)
                    clear c19
                    (first | rw [c19b0] | (simp only [i64_w, i32_w]; rw [c19b0]) | skip)
                    by_cases c20 : 0 ≤ 2
                    · rw [if_pos c20] at H
                      have c20b0 := eq_true c20
                      have c20b1 : decide (0 ≤ 2) = true := decide_eq_true c20
                      clear c20
                      by_cases c21 : 2 ≤ (x5_14.size : Int)
                      · rw [if_pos c21] at H
                        have c21b0 := eq_true c21
                        have c21b1 : decide (2 ≤ (x5_14.size : Int)) = true := decide_eq_true c21
                        clear c21
                        have H' := Aside0.mk H
                        clear H
                        go_wp2
                        go_meet
                        case rel => exact ⟨_, (((x5_14.extract 0 2).toList != ([48, 120] : List UInt8))), (by first | rfl | (simp; done) | (simp [*]; done)), H', ⟨by have := HJ2.out; have := HJ9.out; have := HJ14.out; first | omega | exact Nat.le_refl _⟩, ⟨by repeat (first | (with_reducible first | exact HB.out | apply below_alloc | apply pw_below_drewN | apply below_drew1) | exact HB.out)⟩⟩
                      · rw [if_neg c21] at H
                        exact absurd H (by simp)
                    · rw [if_neg c20] at H
                      exact absurd H (by simp)
                case rest =>
                  clear HC18
                  try clear c1
                  try clear p1
                  try clear q1
                  try clear hx1
                  try clear qi1
                  try clear c2
                  try clear p2
                  try clear c3
                  try clear c4
                  try clear c4b0
                  try clear c5
                  try clear c5b0
                  try clear c7
                  try clear c8
                  try clear c11
                  try clear c12
                  try clear c12b0
                  try clear c12b1
                  try clear c13
                  try clear c13b0
                  try clear c13b1
                  try clear p14
                  try clear q14
                  try clear hx14
                  try clear qi14
                  try clear c16
                  try clear c17
                  try clear c17b0
                  try clear c17b1
                  try clear c19
                  try clear c19b0
                  try clear c19b1
                  try clear c20
                  try clear c20b0
                  try clear c20b1
                  try clear c21
                  try clear c21b0
                  try clear c21b1
                  try clear p1
                  try clear p14
                  try clear p2
                  try clear q1
                  try clear q14
                  obtain ⟨kq, x48_17, rfl, HA, HJ17, HB⟩ := hcut
                  cases kq with
                  | zero => exact absurd HA.out (by simp [casketlaw4_TextShifts.j3])
                  | succ kj17 =>
                    have H := HA.out
                    clear HA
                    simp only [casketlaw4_TextShifts.j3] at H
                    by_cases c22 : x48_17 = true
                    · subst c22
                      have H1 : (some false) = some r := by rw [if_pos rfl] at H; exact H
                      clear H
                      have H := H1
                      clear H1
                      obtain rfl := Option.some.inj H
                      go_wp2
                      go_ret
                      exact ⟨by first | rfl | (simp [errW_none, errW_some] <;> rfl) | (simp [*, errW_none, errW_some] <;> rfl), by repeat (first | (with_reducible first | exact HB.out | apply below_alloc | apply pw_below_drewN | apply below_drew1) | exact HB.out)⟩
                    · replace c22 := Bool.eq_false_iff.mpr c22
                      subst c22
                      have H1 : (casketlaw4_TextShifts.l0 kj17 a0 a1 x5_14 x6_14 (⟨#[]⟩ : ByteArray) 0) = some r := by rw [if_neg (show ¬ (false = true) by decide)] at H; exact H
                      clear H
                      have H := H1
                      clear H1
                      have H' := Aside0.mk H
                      clear H
                      go_wp2
                      go_loopg [7, 8] kj17 (fun kq v7 v8 w' => ∃ (x7_5 : ByteArray) (x8_5 : Int), v7 = .string x7_5 ∧ v8 = .int .i64 x8_5 ∧ Aside0 (casketlaw4_TextShifts.l0 kq a0 a1 x5_14 x6_14 x7_5 x8_5 = some r) ∧ Aside0 (kq ≤ kj17) ∧ Aside0 (Below w.heap.size w w'))
                      case atStart => exact ⟨((⟨#[]⟩ : ByteArray)), (0), (by first | rfl | (simp; done) | (simp [*]; done)), (by first | rfl | (simp; done) | (simp [*]; done)), H', ⟨Nat.le_refl _⟩, ⟨by repeat (first | (with_reducible first | exact HB.out | apply below_alloc | apply pw_below_drewN | apply below_drew1) | exact HB.out)⟩⟩
                      case round =>
                        clear H'
                        try clear c1
                        try clear p1
                        try clear q1
                        try clear hx1
                        try clear qi1
                        try clear c2
                        try clear p2
                        try clear c3
                        try clear c4
                        try clear c4b0
                        try clear c5
                        try clear c5b0
                        try clear c7
                        try clear c8
                        try clear c11
                        try clear c12
                        try clear c12b0
                        try clear c12b1
                        try clear c13
                        try clear c13b0
                        try clear c13b1
                        try clear p14
                        try clear q14
                        try clear hx14
                        try clear qi14
                        try clear c16
                        try clear c17
                        try clear c17b0
                        try clear c17b1
                        try clear c19
                        try clear c19b0
                        try clear c19b1
                        try clear c20
                        try clear c20b0
                        try clear c20b1
                        try clear c21
                        try clear c21b0
                        try clear c21b1
                        try clear c22
                        try clear p1
                        try clear p14
                        try clear p2
                        try clear q1
                        try clear q14
                        obtain ⟨x7_5, x8_5, rfl, rfl, HA, HK5, HB⟩ := hrel
                        cases gk with
                        | zero => exact absurd HA.out (by simp [casketlaw4_TextShifts.l0])
                        | succ k5 =>
                          have H := HA.out
                          clear HA
                          simp only [casketlaw4_TextShifts.l0] at H
                          by_cases c23 : x8_5 < a1
                          · rw [if_pos c23] at H
                            have c23b0 : decide (x8_5 < a1) = true := decide_eq_true c23
                            clear c23
                            by_cases c24 : x7_5.size + 1 ≤ 9223372036854775807
                            · rw [if_pos c24] at H
                              have c24b0 := eq_true c24
                              have c24b1 : decide (x7_5.size + 1 ≤ 9223372036854775807) = true := decide_eq_true c24
                              try have c24b2 : (9223372036854775807 < x7_5.size + 1) = False := eq_false (Nat.not_lt.2 c24)
                              have H' := Aside0.mk H
                              clear H
                              go_wp2
                              go_roundg k5
                              case measure => have := HJ2.out; have := HJ9.out; have := HJ14.out; have := HJ17.out; have := HK5.out; omega
                              case rel => exact ⟨(x7_5 ++ (⟨#[48]⟩ : ByteArray)), (wrap64 (x8_5 + 1)), (by first | rfl | (simp; done) | (simp [*]; done)), (by first | rfl | (simp; done) | (simp [*]; done)), H', ⟨by have := HJ2.out; have := HJ9.out; have := HJ14.out; have := HJ17.out; have := HK5.out; omega⟩, ⟨by repeat (first | (with_reducible first | exact HB.out | apply below_alloc | apply pw_below_drewN | apply below_drew1) | exact HB.out)⟩⟩
                            · rw [if_neg c24] at H
                              exact absurd H (by simp)
                          · rw [if_neg c23] at H
                            have c23b0 : decide (x8_5 < a1) = false := decide_eq_false c23
                            clear c23
                            by_cases c25 : x6_14.size + 2 ≤ 9223372036854775807
                            · rw [if_pos c25] at H
                              have c25b0 := eq_true c25
                              have c25b1 : decide (x6_14.size + 2 ≤ 9223372036854775807) = true := decide_eq_true c25
                              try have c25b2 : (9223372036854775807 < x6_14.size + 2) = False := eq_false (Nat.not_lt.2 c25)
                              by_cases c26 : (x6_14 ++ (⟨#[48, 120]⟩ : ByteArray)).size + x7_5.size ≤ 9223372036854775807
                              · rw [if_pos c26] at H
                                have c26b0 := eq_true c26
                                have c26b1 : decide ((x6_14 ++ (⟨#[48, 120]⟩ : ByteArray)).size + x7_5.size ≤ 9223372036854775807) = true := decide_eq_true c26
                                try have c26b2 : (9223372036854775807 < (x6_14 ++ (⟨#[48, 120]⟩ : ByteArray)).size + x7_5.size) = False := eq_false (Nat.not_lt.2 c26)
                                try have c26b2s : (9223372036854775807 < x6_14.size + 2 + x7_5.size) = False := eq_false (by have h_ := of_eq_false c26b2; simp only [ByteArray.size_append] at h_; exact h_)
                                by_cases c27 : 2 ≤ (x5_14.size : Int)
                                · rw [if_pos c27] at H
                                  have c27b0 := eq_true c27
                                  have c27b1 : decide (2 ≤ (x5_14.size : Int)) = true := decide_eq_true c27
                                  clear c27
                                  by_cases c28 : ((x6_14 ++ (⟨#[48, 120]⟩ : ByteArray)) ++ x7_5).size + (x5_14.extract 2 x5_14.size).size ≤ 9223372036854775807
                                  · rw [if_pos c28] at H
                                    have c28b0 := eq_true c28
                                    have c28b1 : decide (((x6_14 ++ (⟨#[48, 120]⟩ : ByteArray)) ++ x7_5).size + (x5_14.extract 2 x5_14.size).size ≤ 9223372036854775807) = true := decide_eq_true c28
                                    try have c28b2 : (9223372036854775807 < ((x6_14 ++ (⟨#[48, 120]⟩ : ByteArray)) ++ x7_5).size + (x5_14.extract 2 x5_14.size).size) = False := eq_false (Nat.not_lt.2 c28)
                                    try have c28b2s0 : (9223372036854775807 < x6_14.size + 2 + x7_5.size + (x5_14.size - 2)) = False := eq_false (by have h_ := of_eq_false c28b2; simp only [ByteArray.size_append, ByteArray.size_extract] at h_; have := (show (⟨#[48, 120]⟩ : ByteArray).size = 2 from rfl); omega)
                                    replace H := Option.bind_eq_some_iff.mp H
                                    obtain ⟨⟨t156, t157⟩, A290, H⟩ := H
                                    replace H : (if t156 = a0 then (casketlaw4_TextShifts.j5 k5 a0 x5_14 x6_14 x7_5 (t157 != 0)) else (casketlaw4_TextShifts.j5 k5 a0 x5_14 x6_14 x7_5 true)) = some r := H
                                    have A29 := Aside0.mk A290
                                    clear A290
                                    have HC30 := Aside0.mk H
                                    clear H
                                    go_upto_region 16 with (first | ((with_reducible refine gate_callee (f := 12) rfl ?_); refine goesL_ (some 64) rfl rfl Tryd.func12 (by kernel_rfl) rfl #[.string (((x6_14 ++ (⟨#[48, 120]⟩ : ByteArray)) ++ x7_5) ++ (x5_14.extract 2 x5_14.size))] rfl (by (try simp only [List.map_toArray, List.map_cons, List.map_nil]); first | done | rfl | (simp only [List.length_drop, List.length_take]; rfl)) ?_; (with_reducible refine (numtext_ParseFloat.calls (hG := (by first | exact Glob.at_ HG0.out (by repeat (first | (with_reducible first | exact HB.out | apply below_alloc | apply pw_below_drewN | apply below_drew1) | exact HB.out)) | exact Glob.at_ HG0.out (Below.refl _ _))) k5 (((x6_14 ++ (⟨#[48, 120]⟩ : ByteArray)) ++ x7_5) ++ (x5_14.extract 2 x5_14.size)) t156 t157 _ A29.out).mono ?_); rintro e w31 ⟨rfl, hb⟩; refine ⟨_, rfl, ?_⟩; have n0_ := Aside0.mk (below_step (by repeat (first | (with_reducible first | exact HB.out | apply below_alloc | apply pw_below_drewN | apply below_drew1) | exact HB.out)) hb); clear HB; have HB := n0_; clear n0_; (try clear hb); (try clear hb2); (try clear hk); (try clear hi)))
                                    (try simp only [Act.put, List.setIfInBounds_toArray, List.set_cons_zero, List.set_cons_succ])
                                    go_cut [73] (fun v73 wc => ∃ (kq : Nat) (x73_29 : Bool), v73 = .bool x73_29 ∧ Aside0 (casketlaw4_TextShifts.j5 kq a0 x5_14 x6_14 x7_5 x73_29 = some r) ∧ Aside0 (kq ≤ k5) ∧ Aside0 (Below w.heap.size w wc))
                                    case first =>
                                      have H := HC30.out
                                      clear HC30
                                      by_cases c32 : t156 = a0
                                      · rw [if_pos c32] at H
                                        have c32b0 : (t156 == a0) = true := beq_iff_eq.mpr c32
                                        have c32b1 : (t156 != a0) = false := bne_eq_false_iff_eq.mpr c32
                                        clear c32
                                        (first | rw [c32b0] | (simp only [i64_w, i32_w]; rw [c32b0]) | skip)
                                        have H' := Aside0.mk H
                                        clear H
                                        go_wp2
                                        go_meet
                                        case rel => exact ⟨_, ((t157 != 0)), (by first | rfl | (simp; done) | (simp [*]; done)), H', ⟨by have := HJ2.out; have := HJ9.out; have := HJ14.out; have := HJ17.out; have := HK5.out; first | omega | exact Nat.le_refl _⟩, ⟨by repeat (first | (with_reducible first | exact HB.out | apply below_alloc | apply pw_below_drewN | apply below_drew1) | exact HB.out)⟩⟩
                                      · rw [if_neg c32] at H
                                        have c32b0 : (t156 == a0) = false := beq_eq_false_iff_ne.mpr c32
                                        have c32b1 : (t156 != a0) = true := bne_iff_ne.mpr c32
                                        (first | rw [c32b0] | (simp only [i64_w, i32_w]; rw [c32b0]) | skip)
                                        have H' := Aside0.mk H
                                        clear H
                                        go_wp2
                                        go_meet
                                        case rel => exact ⟨_, (true), (by first | rfl | (simp; done) | (simp [*]; done)), H', ⟨by have := HJ2.out; have := HJ9.out; have := HJ14.out; have := HJ17.out; have := HK5.out; first | omega | exact Nat.le_refl _⟩, ⟨by repeat (first | (with_reducible first | exact HB.out | apply below_alloc | apply pw_below_drewN | apply below_drew1) | exact HB.out)⟩⟩
                                    case rest =>
                                      clear HC30
                                      try clear c1
                                      try clear p1
                                      try clear q1
                                      try clear hx1
                                      try clear qi1
                                      try clear c2
                                      try clear p2
                                      try clear c3
                                      try clear c4
                                      try clear c4b0
                                      try clear c5
                                      try clear c5b0
                                      try clear p6
                                      try clear c7
                                      try clear c8
                                      try clear c11
                                      try clear c12
                                      try clear c12b0
                                      try clear c12b1
                                      try clear c13
                                      try clear c13b0
                                      try clear c13b1
                                      try clear p14
                                      try clear q14
                                      try clear hx14
                                      try clear qi14
                                      try clear c16
                                      try clear c17
                                      try clear c17b0
                                      try clear c17b1
                                      try clear c19
                                      try clear c19b0
                                      try clear c19b1
                                      try clear c20
                                      try clear c20b0
                                      try clear c20b1
                                      try clear c21
                                      try clear c21b0
                                      try clear c21b1
                                      try clear c22
                                      try clear c23
                                      try clear c23b0
                                      try clear c24
                                      try clear c24b0
                                      try clear c24b1
                                      try clear c24b2
                                      try clear c25
                                      try clear c25b0
                                      try clear c25b1
                                      try clear c25b2
                                      try clear c26
                                      try clear c26b0
                                      try clear c26b1
                                      try clear c26b2
                                      try clear c27
                                      try clear c27b0
                                      try clear c27b1
                                      try clear c28
                                      try clear c28b0
                                      try clear c28b1
                                      try clear c28b2
                                      try clear c32
                                      try clear c32b0
                                      try clear c32b1
                                      try clear p1
                                      try clear p14
                                      try clear p2
                                      try clear q1
                                      try clear q14
                                      obtain ⟨kq, x73_29, rfl, HA, HJ29, HB⟩ := hcut
                                      cases kq with
                                      | zero => exact absurd HA.out (by simp [casketlaw4_TextShifts.j5])
                                      | succ kj29 =>
                                        have H := HA.out
                                        clear HA
                                        simp only [casketlaw4_TextShifts.j5] at H
                                        by_cases c33 : x73_29 = true
                                        · subst c33
                                          have H1 : (some false) = some r := by rw [if_pos rfl] at H; exact H
                                          clear H
                                          have H := H1
                                          clear H1
                                          obtain rfl := Option.some.inj H
                                          go_wp2
                                          go_ret
                                          exact ⟨by first | rfl | (simp [errW_none, errW_some] <;> rfl) | (simp [*, errW_none, errW_some] <;> rfl), by repeat (first | (with_reducible first | exact HB.out | apply below_alloc | apply pw_below_drewN | apply below_drew1) | exact HB.out)⟩
                                        · replace c33 := Bool.eq_false_iff.mpr c33
                                          subst c33
                                          have H1 : (casketlaw4_TextShifts.l1 kj29 a0 x5_14 x6_14 x7_5 (-1) 0) = some r := by rw [if_neg (show ¬ (false = true) by decide)] at H; exact H
                                          clear H
                                          have H := H1
                                          clear H1
                                          have H' := Aside0.mk H
                                          clear H
                                          go_wp2
                                          go_loopg [11, 12] kj29 (fun kq v11 v12 w' => ∃ (x11_7 : Int) (x12_7 : Int), v11 = .int .i64 x11_7 ∧ v12 = .int .i64 x12_7 ∧ Aside0 (casketlaw4_TextShifts.l1 kq a0 x5_14 x6_14 x7_5 x11_7 x12_7 = some r) ∧ Aside0 (kq ≤ kj29) ∧ Aside0 (Below w.heap.size w w'))
                                          case atStart => exact ⟨((-1)), (0), (by first | rfl | (simp; done) | (simp [*]; done)), (by first | rfl | (simp; done) | (simp [*]; done)), H', ⟨Nat.le_refl _⟩, ⟨by repeat (first | (with_reducible first | exact HB.out | apply below_alloc | apply pw_below_drewN | apply below_drew1) | exact HB.out)⟩⟩
                                          case round =>
                                            clear H'
                                            try clear c1
                                            try clear p1
                                            try clear q1
                                            try clear hx1
                                            try clear qi1
                                            try clear c2
                                            try clear p2
                                            try clear c3
                                            try clear c4
                                            try clear c4b0
                                            try clear c5
                                            try clear c5b0
                                            try clear p6
                                            try clear c7
                                            try clear c8
                                            try clear c11
                                            try clear c12
                                            try clear c12b0
                                            try clear c12b1
                                            try clear c13
                                            try clear c13b0
                                            try clear c13b1
                                            try clear p14
                                            try clear q14
                                            try clear hx14
                                            try clear qi14
                                            try clear c16
                                            try clear c17
                                            try clear c17b0
                                            try clear c17b1
                                            try clear c19
                                            try clear c19b0
                                            try clear c19b1
                                            try clear c20
                                            try clear c20b0
                                            try clear c20b1
                                            try clear c21
                                            try clear c21b0
                                            try clear c21b1
                                            try clear c22
                                            try clear c23
                                            try clear c23b0
                                            try clear c24
                                            try clear c24b0
                                            try clear c24b1
                                            try clear c24b2
                                            try clear c25
                                            try clear c25b0
                                            try clear c25b1
                                            try clear c25b2
                                            try clear c26
                                            try clear c26b0
                                            try clear c26b1
                                            try clear c26b2
                                            try clear c27
                                            try clear c27b0
                                            try clear c27b1
                                            try clear c28
                                            try clear c28b0
                                            try clear c28b1
                                            try clear c28b2
                                            try clear c32
                                            try clear c32b0
                                            try clear c32b1
                                            try clear c33
                                            try clear p1
                                            try clear p14
                                            try clear p2
                                            try clear p6
                                            try clear q1
                                            try clear q14
                                            obtain ⟨x11_7, x12_7, rfl, rfl, HA, HK7, HB⟩ := hrel
                                            cases gk with
                                            | zero => exact absurd HA.out (by simp [casketlaw4_TextShifts.l1])
                                            | succ k7 =>
                                              have H := HA.out
                                              clear HA
                                              simp only [casketlaw4_TextShifts.l1] at H
                                              by_cases c34 : x12_7 < (x5_14.size : Int)
                                              · rw [if_pos c34] at H
                                                have c34b0 : decide (x12_7 < (x5_14.size : Int)) = true := decide_eq_true c34
                                                clear c34
                                                by_cases c35 : 0 ≤ x12_7
                                                · rw [if_pos c35] at H
                                                  have c35b0 : decide (0 ≤ x12_7) = true := decide_eq_true c35
                                                  clear c35
                                                  by_cases c37 : (bt x5_14 x12_7) = 112
                                                  · rw [if_pos c37] at H
                                                    have c37b0 : ((bt x5_14 x12_7) == 112) = true := beq_iff_eq.mpr c37
                                                    have c37b1 : ((bt x5_14 x12_7) != 112) = false := bne_eq_false_iff_eq.mpr c37
                                                    clear c37
                                                    have H' := Aside0.mk H
                                                    clear H
                                                    have p36 : 0 ≤ (x12_7 : Int) := of_decide_eq_true (by first | (with_reducible assumption) | assumption)
                                                    have q36 : x12_7 < (x5_14.size : Int) := of_decide_eq_true (by first | (with_reducible assumption) | assumption)
                                                    have hx36 := bt_at x5_14 x12_7
                                                    replace p36 := eq_true p36
                                                    replace q36 := eq_true q36
                                                    go_wp2
                                                    go_roundg k7
                                                    case measure => have := HJ2.out; have := HJ9.out; have := HJ14.out; have := HJ17.out; have := HK5.out; have := HJ29.out; have := HK7.out; omega
                                                    case rel => exact ⟨(x12_7), (wrap64 (x12_7 + 1)), (by first | rfl | (simp; done) | (simp [*]; done)), (by first | rfl | (simp; done) | (simp [*]; done)), H', ⟨by have := HJ2.out; have := HJ9.out; have := HJ14.out; have := HJ17.out; have := HK5.out; have := HJ29.out; have := HK7.out; omega⟩, ⟨by repeat (first | (with_reducible first | exact HB.out | apply below_alloc | apply pw_below_drewN | apply below_drew1) | exact HB.out)⟩⟩
                                                  · rw [if_neg c37] at H
                                                    have c37b0 : ((bt x5_14 x12_7) == 112) = false := beq_eq_false_iff_ne.mpr c37
                                                    have c37b1 : ((bt x5_14 x12_7) != 112) = true := bne_iff_ne.mpr c37
                                                    have H' := Aside0.mk H
                                                    clear H
                                                    have p36 : 0 ≤ (x12_7 : Int) := of_decide_eq_true (by first | (with_reducible assumption) | assumption)
                                                    have q36 : x12_7 < (x5_14.size : Int) := of_decide_eq_true (by first | (with_reducible assumption) | assumption)
                                                    have hx36 := bt_at x5_14 x12_7
                                                    replace p36 := eq_true p36
                                                    replace q36 := eq_true q36
                                                    go_wp2
                                                    go_roundg k7
                                                    case measure => have := HJ2.out; have := HJ9.out; have := HJ14.out; have := HJ17.out; have := HK5.out; have := HJ29.out; have := HK7.out; omega
                                                    case rel => exact ⟨(x11_7), (wrap64 (x12_7 + 1)), (by first | rfl | (simp; done) | (simp [*]; done)), (by first | rfl | (simp; done) | (simp [*]; done)), H', ⟨by have := HJ2.out; have := HJ9.out; have := HJ14.out; have := HJ17.out; have := HK5.out; have := HJ29.out; have := HK7.out; omega⟩, ⟨by repeat (first | (with_reducible first | exact HB.out | apply below_alloc | apply pw_below_drewN | apply below_drew1) | exact HB.out)⟩⟩
                                                · rw [if_neg c35] at H
                                                  exact absurd H (by simp)
                                              · rw [if_neg c34] at H
                                                have c34b0 : decide (x12_7 < (x5_14.size : Int)) = false := decide_eq_false c34
                                                clear c34
                                                by_cases c38 : x11_7 < 0
                                                · rw [if_pos c38] at H
                                                  have c38b0 : decide (x11_7 < 0) = true := decide_eq_true c38
                                                  clear c38
                                                  obtain rfl := Option.some.inj H
                                                  go_wp2
                                                  go_ret
                                                  exact ⟨by first | rfl | (simp [errW_none, errW_some] <;> rfl) | (simp [*, errW_none, errW_some] <;> rfl), by repeat (first | (with_reducible first | exact HB.out | apply below_alloc | apply pw_below_drewN | apply below_drew1) | exact HB.out)⟩
                                                · rw [if_neg c38] at H
                                                  have c38b0 : decide (x11_7 < 0) = false := decide_eq_false c38
                                                  clear c38
                                                  by_cases c39 : 0 ≤ x11_7
                                                  · rw [if_pos c39] at H
                                                    have c39b0 := eq_true c39
                                                    have c39b1 : decide (0 ≤ x11_7) = true := decide_eq_true c39
                                                    clear c39
                                                    by_cases c40 : x11_7 ≤ (x5_14.size : Int)
                                                    · rw [if_pos c40] at H
                                                      have c40b0 := eq_true c40
                                                      have c40b1 : decide (x11_7 ≤ (x5_14.size : Int)) = true := decide_eq_true c40
                                                      clear c40
                                                      by_cases c41 : ((x5_14.extract 0 (x11_7 : Int).toNat).size : Int) = 3
                                                      · rw [if_pos c41] at H
                                                        have c41b0 : (((x5_14.extract 0 (x11_7 : Int).toNat).size : Int) == 3) = true := beq_iff_eq.mpr c41
                                                        have c41b1 : (((x5_14.extract 0 (x11_7 : Int).toNat).size : Int) != 3) = false := bne_eq_false_iff_eq.mpr c41
                                                        have c41m : (max x11_7 0 == 3) = true := beq_iff_eq.mpr (by have hq1 := of_eq_true c39b0; have hq2 := of_eq_true c40b0; simp only [ByteArray.size_extract] at c41; omega)
                                                        clear c41
                                                        by_cases c42 : (x5_14.extract 0 (x11_7 : Int).toNat).size + 1 ≤ 9223372036854775807
                                                        · rw [if_pos c42] at H
                                                          have c42b0 := eq_true c42
                                                          have c42b1 : decide ((x5_14.extract 0 (x11_7 : Int).toNat).size + 1 ≤ 9223372036854775807) = true := decide_eq_true c42
                                                          try have c42b2 : (9223372036854775807 < (x5_14.extract 0 (x11_7 : Int).toNat).size + 1) = False := eq_false (Nat.not_lt.2 c42)
                                                          try have c42b2s0 : (9223372036854775807 < min (x11_7 : Int).toNat x5_14.size + 1) = False := eq_false (by have h_ := of_eq_false c42b2; simp only [ByteArray.size_append, ByteArray.size_extract] at h_; omega)
                                                          try have c42b2s1 : (9223372036854775807 < (x11_7 : Int).toNat + 1) = False := eq_false (by have h_ := of_eq_false c42b2; simp only [ByteArray.size_append, ByteArray.size_extract] at h_; have hq1 := of_eq_true c39b0; have hq2 := of_eq_true c40b0; omega)
                                                          by_cases c43 : x6_14.size + ((x5_14.extract 0 (x11_7 : Int).toNat) ++ (⟨#[46]⟩ : ByteArray)).size ≤ 9223372036854775807
                                                          · rw [if_pos c43] at H
                                                            have c43b0 := eq_true c43
                                                            have c43b1 : decide (x6_14.size + ((x5_14.extract 0 (x11_7 : Int).toNat) ++ (⟨#[46]⟩ : ByteArray)).size ≤ 9223372036854775807) = true := decide_eq_true c43
                                                            try have c43b2 : (9223372036854775807 < x6_14.size + ((x5_14.extract 0 (x11_7 : Int).toNat) ++ (⟨#[46]⟩ : ByteArray)).size) = False := eq_false (Nat.not_lt.2 c43)
                                                            try have c43b2s0 : (9223372036854775807 < x6_14.size + (min (x11_7 : Int).toNat x5_14.size + 1)) = False := eq_false (by have h_ := of_eq_false c43b2; simp only [ByteArray.size_append, ByteArray.size_extract] at h_; have := (show (⟨#[46]⟩ : ByteArray).size = 1 from rfl); omega)
                                                            try have c43b2s1 : (9223372036854775807 < x6_14.size + ((x11_7 : Int).toNat + 1)) = False := eq_false (by have h_ := of_eq_false c43b2; simp only [ByteArray.size_append, ByteArray.size_extract] at h_; have hq1 := of_eq_true c39b0; have hq2 := of_eq_true c40b0; have := (show (⟨#[46]⟩ : ByteArray).size = 1 from rfl); omega)
                                                            by_cases c44 : (x6_14 ++ ((x5_14.extract 0 (x11_7 : Int).toNat) ++ (⟨#[46]⟩ : ByteArray))).size + 1 ≤ 9223372036854775807
                                                            · rw [if_pos c44] at H
                                                              have c44b0 := eq_true c44
                                                              have c44b1 : decide ((x6_14 ++ ((x5_14.extract 0 (x11_7 : Int).toNat) ++ (⟨#[46]⟩ : ByteArray))).size + 1 ≤ 9223372036854775807) = true := decide_eq_true c44
                                                              try have c44b2 : (9223372036854775807 < (x6_14 ++ ((x5_14.extract 0 (x11_7 : Int).toNat) ++ (⟨#[46]⟩ : ByteArray))).size + 1) = False := eq_false (Nat.not_lt.2 c44)
                                                              try have c44b2s0 : (9223372036854775807 < x6_14.size + (min (x11_7 : Int).toNat x5_14.size + 1) + 1) = False := eq_false (by have h_ := of_eq_false c44b2; simp only [ByteArray.size_append, ByteArray.size_extract] at h_; have := (show (⟨#[46]⟩ : ByteArray).size = 1 from rfl); omega)
                                                              try have c44b2s1 : (9223372036854775807 < x6_14.size + ((x11_7 : Int).toNat + 1) + 1) = False := eq_false (by have h_ := of_eq_false c44b2; simp only [ByteArray.size_append, ByteArray.size_extract] at h_; have hq1 := of_eq_true c39b0; have hq2 := of_eq_true c40b0; have := (show (⟨#[46]⟩ : ByteArray).size = 1 from rfl); omega)
                                                              by_cases c45 : ((x6_14 ++ ((x5_14.extract 0 (x11_7 : Int).toNat) ++ (⟨#[46]⟩ : ByteArray))) ++ (⟨#[48]⟩ : ByteArray)).size + x7_5.size ≤ 9223372036854775807
                                                              · rw [if_pos c45] at H
                                                                have c45b0 := eq_true c45
                                                                have c45b1 : decide (((x6_14 ++ ((x5_14.extract 0 (x11_7 : Int).toNat) ++ (⟨#[46]⟩ : ByteArray))) ++ (⟨#[48]⟩ : ByteArray)).size + x7_5.size ≤ 9223372036854775807) = true := decide_eq_true c45
                                                                try have c45b2 : (9223372036854775807 < ((x6_14 ++ ((x5_14.extract 0 (x11_7 : Int).toNat) ++ (⟨#[46]⟩ : ByteArray))) ++ (⟨#[48]⟩ : ByteArray)).size + x7_5.size) = False := eq_false (Nat.not_lt.2 c45)
                                                                try have c45b2s0 : (9223372036854775807 < x6_14.size + (min (x11_7 : Int).toNat x5_14.size + 1) + 1 + x7_5.size) = False := eq_false (by have h_ := of_eq_false c45b2; simp only [ByteArray.size_append, ByteArray.size_extract] at h_; have := (show (⟨#[46]⟩ : ByteArray).size = 1 from rfl); have := (show (⟨#[48]⟩ : ByteArray).size = 1 from rfl); omega)
                                                                try have c45b2s1 : (9223372036854775807 < x6_14.size + ((x11_7 : Int).toNat + 1) + 1 + x7_5.size) = False := eq_false (by have h_ := of_eq_false c45b2; simp only [ByteArray.size_append, ByteArray.size_extract] at h_; have hq1 := of_eq_true c39b0; have hq2 := of_eq_true c40b0; have := (show (⟨#[46]⟩ : ByteArray).size = 1 from rfl); have := (show (⟨#[48]⟩ : ByteArray).size = 1 from rfl); omega)
                                                                have c46b0 := eq_true (of_decide_eq_true (by first | (with_reducible assumption) | assumption) : 0 ≤ x11_7)
                                                                have c47b0 := eq_true (of_decide_eq_true (by first | (with_reducible assumption) | assumption) : x11_7 ≤ (x5_14.size : Int))
                                                                by_cases c48 : (((x6_14 ++ ((x5_14.extract 0 (x11_7 : Int).toNat) ++ (⟨#[46]⟩ : ByteArray))) ++ (⟨#[48]⟩ : ByteArray)) ++ x7_5).size + (x5_14.extract (x11_7 : Int).toNat x5_14.size).size ≤ 9223372036854775807
                                                                · rw [if_pos c48] at H
                                                                  have c48b0 := eq_true c48
                                                                  have c48b1 : decide ((((x6_14 ++ ((x5_14.extract 0 (x11_7 : Int).toNat) ++ (⟨#[46]⟩ : ByteArray))) ++ (⟨#[48]⟩ : ByteArray)) ++ x7_5).size + (x5_14.extract (x11_7 : Int).toNat x5_14.size).size ≤ 9223372036854775807) = true := decide_eq_true c48
                                                                  try have c48b2 : (9223372036854775807 < (((x6_14 ++ ((x5_14.extract 0 (x11_7 : Int).toNat) ++ (⟨#[46]⟩ : ByteArray))) ++ (⟨#[48]⟩ : ByteArray)) ++ x7_5).size + (x5_14.extract (x11_7 : Int).toNat x5_14.size).size) = False := eq_false (Nat.not_lt.2 c48)
                                                                  try have c48b2s0 : (9223372036854775807 < x6_14.size + (min (x11_7 : Int).toNat x5_14.size + 1) + 1 + x7_5.size + (x5_14.size - (x11_7 : Int).toNat)) = False := eq_false (by have h_ := of_eq_false c48b2; simp only [ByteArray.size_append, ByteArray.size_extract] at h_; have := (show (⟨#[46]⟩ : ByteArray).size = 1 from rfl); have := (show (⟨#[48]⟩ : ByteArray).size = 1 from rfl); omega)
                                                                  try have c48b2s1 : (9223372036854775807 < x6_14.size + ((x11_7 : Int).toNat + 1) + 1 + x7_5.size + (x5_14.size - (x11_7 : Int).toNat)) = False := eq_false (by have h_ := of_eq_false c48b2; simp only [ByteArray.size_append, ByteArray.size_extract] at h_; have hq1 := of_eq_true c39b0; have hq2 := of_eq_true c40b0; have := (show (⟨#[46]⟩ : ByteArray).size = 1 from rfl); have := (show (⟨#[48]⟩ : ByteArray).size = 1 from rfl); omega)
                                                                  replace H := Option.bind_eq_some_iff.mp H
                                                                  obtain ⟨⟨t158, t159⟩, A490, H⟩ := H
                                                                  replace H : (if t158 = a0 then (if t159 = 0 then ((casketlaw4_awake.f k7).bind fun t160 => (some t160)) else (some false)) else (some false)) = some r := H
                                                                  have A49 := Aside0.mk A490
                                                                  clear A490
                                                                  by_cases c50 : t158 = a0
                                                                  · rw [if_pos c50] at H
                                                                    have c50b0 : (t158 == a0) = true := beq_iff_eq.mpr c50
                                                                    have c50b1 : (t158 != a0) = false := bne_eq_false_iff_eq.mpr c50
                                                                    clear c50
                                                                    by_cases c51 : t159 = 0
                                                                    · rw [if_pos c51] at H
                                                                      have c51b0 : (t159 == 0) = true := beq_iff_eq.mpr c51
                                                                      have c51b1 : (t159 != 0) = false := bne_eq_false_iff_eq.mpr c51
                                                                      clear c51
                                                                      replace H := Option.bind_eq_some_iff.mp H
                                                                      obtain ⟨t160, A520, H⟩ := H
                                                                      replace H : (some t160) = some r := H
                                                                      have A52 := Aside0.mk A520
                                                                      clear A520
                                                                      obtain rfl := Option.some.inj H
                                                                      go_wp2_with (first | ((with_reducible refine gate_callee (f := 12) rfl ?_); refine goesL_ (some 106) rfl rfl Tryd.func12 (by kernel_rfl) rfl #[.string ((((x6_14 ++ ((x5_14.extract 0 (x11_7 : Int).toNat) ++ (⟨#[46]⟩ : ByteArray))) ++ (⟨#[48]⟩ : ByteArray)) ++ x7_5) ++ (x5_14.extract (x11_7 : Int).toNat x5_14.size))] rfl (by (try simp only [List.map_toArray, List.map_cons, List.map_nil]); first | done | rfl | (simp only [List.length_drop, List.length_take]; rfl)) ?_; (with_reducible refine (numtext_ParseFloat.calls (hG := (by first | exact Glob.at_ HG0.out (by repeat (first | (with_reducible first | exact HB.out | apply below_alloc | apply pw_below_drewN | apply below_drew1) | exact HB.out)) | exact Glob.at_ HG0.out (Below.refl _ _))) k7 ((((x6_14 ++ ((x5_14.extract 0 (x11_7 : Int).toNat) ++ (⟨#[46]⟩ : ByteArray))) ++ (⟨#[48]⟩ : ByteArray)) ++ x7_5) ++ (x5_14.extract (x11_7 : Int).toNat x5_14.size)) t158 t159 _ A49.out).mono ?_); rintro e w53 ⟨rfl, hb⟩; refine ⟨_, rfl, ?_⟩; have n0_ := Aside0.mk (below_step (by repeat (first | (with_reducible first | exact HB.out | apply below_alloc | apply pw_below_drewN | apply below_drew1) | exact HB.out)) hb); clear HB; have HB := n0_; clear n0_; (try clear hb); (try clear hb2); (try clear hk); (try clear hi)) | (go_at_call 13; (with_reducible refine (casketlaw4_awake.calls (hG := (by first | exact Glob.at_ HG0.out (by repeat (first | (with_reducible first | exact HB.out | apply below_alloc | apply pw_below_drewN | apply below_drew1) | exact HB.out)) | exact Glob.at_ HG0.out (Below.refl _ _))) k7  t160 _ A52.out).mono ?_); rintro e w54 ⟨rfl, hb⟩; have n0_ := Aside0.mk (below_step (by repeat (first | (with_reducible first | exact HB.out | apply below_alloc | apply pw_below_drewN | apply below_drew1) | exact HB.out)) hb); clear HB; have HB := n0_; clear n0_; (try clear hb); (try clear hb2); (try clear hk); (try clear hi)))
                                                                      go_ret
                                                                      exact ⟨by first | rfl | (simp [errW_none, errW_some] <;> rfl) | (simp [*, errW_none, errW_some] <;> rfl), by repeat (first | (with_reducible first | exact HB.out | apply below_alloc | apply pw_below_drewN | apply below_drew1) | exact HB.out)⟩
                                                                    · rw [if_neg c51] at H
                                                                      have c51b0 : (t159 == 0) = false := beq_eq_false_iff_ne.mpr c51
                                                                      have c51b1 : (t159 != 0) = true := bne_iff_ne.mpr c51
                                                                      obtain rfl := Option.some.inj H
                                                                      go_wp2_with (first | ((with_reducible refine gate_callee (f := 12) rfl ?_); refine goesL_ (some 106) rfl rfl Tryd.func12 (by kernel_rfl) rfl #[.string ((((x6_14 ++ ((x5_14.extract 0 (x11_7 : Int).toNat) ++ (⟨#[46]⟩ : ByteArray))) ++ (⟨#[48]⟩ : ByteArray)) ++ x7_5) ++ (x5_14.extract (x11_7 : Int).toNat x5_14.size))] rfl (by (try simp only [List.map_toArray, List.map_cons, List.map_nil]); first | done | rfl | (simp only [List.length_drop, List.length_take]; rfl)) ?_; (with_reducible refine (numtext_ParseFloat.calls (hG := (by first | exact Glob.at_ HG0.out (by repeat (first | (with_reducible first | exact HB.out | apply below_alloc | apply pw_below_drewN | apply below_drew1) | exact HB.out)) | exact Glob.at_ HG0.out (Below.refl _ _))) k7 ((((x6_14 ++ ((x5_14.extract 0 (x11_7 : Int).toNat) ++ (⟨#[46]⟩ : ByteArray))) ++ (⟨#[48]⟩ : ByteArray)) ++ x7_5) ++ (x5_14.extract (x11_7 : Int).toNat x5_14.size)) t158 t159 _ A49.out).mono ?_); rintro e w55 ⟨rfl, hb⟩; refine ⟨_, rfl, ?_⟩; have n0_ := Aside0.mk (below_step (by repeat (first | (with_reducible first | exact HB.out | apply below_alloc | apply pw_below_drewN | apply below_drew1) | exact HB.out)) hb); clear HB; have HB := n0_; clear n0_; (try clear hb); (try clear hb2); (try clear hk); (try clear hi)))
                                                                      go_ret
                                                                      exact ⟨by first | rfl | (simp [errW_none, errW_some] <;> rfl) | (simp [*, errW_none, errW_some] <;> rfl), by repeat (first | (with_reducible first | exact HB.out | apply below_alloc | apply pw_below_drewN | apply below_drew1) | exact HB.out)⟩
                                                                  · rw [if_neg c50] at H
                                                                    have c50b0 : (t158 == a0) = false := beq_eq_false_iff_ne.mpr c50
                                                                    have c50b1 : (t158 != a0) = true := bne_iff_ne.mpr c50
                                                                    obtain rfl := Option.some.inj H
                                                                    go_wp2_with (first | ((with_reducible refine gate_callee (f := 12) rfl ?_); refine goesL_ (some 106) rfl rfl Tryd.func12 (by kernel_rfl) rfl #[.string ((((x6_14 ++ ((x5_14.extract 0 (x11_7 : Int).toNat) ++ (⟨#[46]⟩ : ByteArray))) ++ (⟨#[48]⟩ : ByteArray)) ++ x7_5) ++ (x5_14.extract (x11_7 : Int).toNat x5_14.size))] rfl (by (try simp only [List.map_toArray, List.map_cons, List.map_nil]); first | done | rfl | (simp only [List.length_drop, List.length_take]; rfl)) ?_; (with_reducible refine (numtext_ParseFloat.calls (hG := (by first | exact Glob.at_ HG0.out (by repeat (first | (with_reducible first | exact HB.out | apply below_alloc | apply pw_below_drewN | apply below_drew1) | exact HB.out)) | exact Glob.at_ HG0.out (Below.refl _ _))) k7 ((((x6_14 ++ ((x5_14.extract 0 (x11_7 : Int).toNat) ++ (⟨#[46]⟩ : ByteArray))) ++ (⟨#[48]⟩ : ByteArray)) ++ x7_5) ++ (x5_14.extract (x11_7 : Int).toNat x5_14.size)) t158 t159 _ A49.out).mono ?_); rintro e w56 ⟨rfl, hb⟩; refine ⟨_, rfl, ?_⟩; have n0_ := Aside0.mk (below_step (by repeat (first | (with_reducible first | exact HB.out | apply below_alloc | apply pw_below_drewN | apply below_drew1) | exact HB.out)) hb); clear HB; have HB := n0_; clear n0_; (try clear hb); (try clear hb2); (try clear hk); (try clear hi)))
                                                                    go_ret
                                                                    exact ⟨by first | rfl | (simp [errW_none, errW_some] <;> rfl) | (simp [*, errW_none, errW_some] <;> rfl), by repeat (first | (with_reducible first | exact HB.out | apply below_alloc | apply pw_below_drewN | apply below_drew1) | exact HB.out)⟩
                                                                · rw [if_neg c48] at H
                                                                  exact absurd H (by simp)
                                                              · rw [if_neg c45] at H
                                                                exact absurd H (by simp)
                                                            · rw [if_neg c44] at H
                                                              exact absurd H (by simp)
                                                          · rw [if_neg c43] at H
                                                            exact absurd H (by simp)
                                                        · rw [if_neg c42] at H
                                                          exact absurd H (by simp)
                                                      · rw [if_neg c41] at H
                                                        have c41b0 : (((x5_14.extract 0 (x11_7 : Int).toNat).size : Int) == 3) = false := beq_eq_false_iff_ne.mpr c41
                                                        have c41b1 : (((x5_14.extract 0 (x11_7 : Int).toNat).size : Int) != 3) = true := bne_iff_ne.mpr c41
                                                        have c41m : (max x11_7 0 == 3) = false := beq_eq_false_iff_ne.mpr (fun hq0 => c41 (by have hq1 := of_eq_true c39b0; have hq2 := of_eq_true c40b0; simp only [ByteArray.size_extract]; omega))
                                                        by_cases c57 : x6_14.size + (x5_14.extract 0 (x11_7 : Int).toNat).size ≤ 9223372036854775807
                                                        · rw [if_pos c57] at H
                                                          have c57b0 := eq_true c57
                                                          have c57b1 : decide (x6_14.size + (x5_14.extract 0 (x11_7 : Int).toNat).size ≤ 9223372036854775807) = true := decide_eq_true c57
                                                          try have c57b2 : (9223372036854775807 < x6_14.size + (x5_14.extract 0 (x11_7 : Int).toNat).size) = False := eq_false (Nat.not_lt.2 c57)
                                                          try have c57b2s0 : (9223372036854775807 < x6_14.size + min (x11_7 : Int).toNat x5_14.size) = False := eq_false (by have h_ := of_eq_false c57b2; simp only [ByteArray.size_append, ByteArray.size_extract] at h_; omega)
                                                          try have c57b2s1 : (9223372036854775807 < x6_14.size + (x11_7 : Int).toNat) = False := eq_false (by have h_ := of_eq_false c57b2; simp only [ByteArray.size_append, ByteArray.size_extract] at h_; have hq1 := of_eq_true c39b0; have hq2 := of_eq_true c40b0; omega)
                                                          by_cases c58 : (x6_14 ++ (x5_14.extract 0 (x11_7 : Int).toNat)).size + 1 ≤ 9223372036854775807
                                                          · rw [if_pos c58] at H
                                                            have c58b0 := eq_true c58
                                                            have c58b1 : decide ((x6_14 ++ (x5_14.extract 0 (x11_7 : Int).toNat)).size + 1 ≤ 9223372036854775807) = true := decide_eq_true c58
                                                            try have c58b2 : (9223372036854775807 < (x6_14 ++ (x5_14.extract 0 (x11_7 : Int).toNat)).size + 1) = False := eq_false (Nat.not_lt.2 c58)
                                                            try have c58b2s0 : (9223372036854775807 < x6_14.size + min (x11_7 : Int).toNat x5_14.size + 1) = False := eq_false (by have h_ := of_eq_false c58b2; simp only [ByteArray.size_append, ByteArray.size_extract] at h_; omega)
                                                            try have c58b2s1 : (9223372036854775807 < x6_14.size + (x11_7 : Int).toNat + 1) = False := eq_false (by have h_ := of_eq_false c58b2; simp only [ByteArray.size_append, ByteArray.size_extract] at h_; have hq1 := of_eq_true c39b0; have hq2 := of_eq_true c40b0; omega)
                                                            by_cases c59 : ((x6_14 ++ (x5_14.extract 0 (x11_7 : Int).toNat)) ++ (⟨#[48]⟩ : ByteArray)).size + x7_5.size ≤ 9223372036854775807
                                                            · rw [if_pos c59] at H
                                                              have c59b0 := eq_true c59
                                                              have c59b1 : decide (((x6_14 ++ (x5_14.extract 0 (x11_7 : Int).toNat)) ++ (⟨#[48]⟩ : ByteArray)).size + x7_5.size ≤ 9223372036854775807) = true := decide_eq_true c59
                                                              try have c59b2 : (9223372036854775807 < ((x6_14 ++ (x5_14.extract 0 (x11_7 : Int).toNat)) ++ (⟨#[48]⟩ : ByteArray)).size + x7_5.size) = False := eq_false (Nat.not_lt.2 c59)
                                                              try have c59b2s0 : (9223372036854775807 < x6_14.size + min (x11_7 : Int).toNat x5_14.size + 1 + x7_5.size) = False := eq_false (by have h_ := of_eq_false c59b2; simp only [ByteArray.size_append, ByteArray.size_extract] at h_; have := (show (⟨#[48]⟩ : ByteArray).size = 1 from rfl); omega)
                                                              try have c59b2s1 : (9223372036854775807 < x6_14.size + (x11_7 : Int).toNat + 1 + x7_5.size) = False := eq_false (by have h_ := of_eq_false c59b2; simp only [ByteArray.size_append, ByteArray.size_extract] at h_; have hq1 := of_eq_true c39b0; have hq2 := of_eq_true c40b0; have := (show (⟨#[48]⟩ : ByteArray).size = 1 from rfl); omega)
                                                              have c60b0 := eq_true (of_decide_eq_true (by first | (with_reducible assumption) | assumption) : 0 ≤ x11_7)
                                                              have c61b0 := eq_true (of_decide_eq_true (by first | (with_reducible assumption) | assumption) : x11_7 ≤ (x5_14.size : Int))
                                                              by_cases c62 : (((x6_14 ++ (x5_14.extract 0 (x11_7 : Int).toNat)) ++ (⟨#[48]⟩ : ByteArray)) ++ x7_5).size + (x5_14.extract (x11_7 : Int).toNat x5_14.size).size ≤ 9223372036854775807
                                                              · rw [if_pos c62] at H
                                                                have c62b0 := eq_true c62
                                                                have c62b1 : decide ((((x6_14 ++ (x5_14.extract 0 (x11_7 : Int).toNat)) ++ (⟨#[48]⟩ : ByteArray)) ++ x7_5).size + (x5_14.extract (x11_7 : Int).toNat x5_14.size).size ≤ 9223372036854775807) = true := decide_eq_true c62
                                                                try have c62b2 : (9223372036854775807 < (((x6_14 ++ (x5_14.extract 0 (x11_7 : Int).toNat)) ++ (⟨#[48]⟩ : ByteArray)) ++ x7_5).size + (x5_14.extract (x11_7 : Int).toNat x5_14.size).size) = False := eq_false (Nat.not_lt.2 c62)
                                                                try have c62b2s0 : (9223372036854775807 < x6_14.size + min (x11_7 : Int).toNat x5_14.size + 1 + x7_5.size + (x5_14.size - (x11_7 : Int).toNat)) = False := eq_false (by have h_ := of_eq_false c62b2; simp only [ByteArray.size_append, ByteArray.size_extract] at h_; have := (show (⟨#[48]⟩ : ByteArray).size = 1 from rfl); omega)
                                                                try have c62b2s1 : (9223372036854775807 < x6_14.size + (x11_7 : Int).toNat + 1 + x7_5.size + (x5_14.size - (x11_7 : Int).toNat)) = False := eq_false (by have h_ := of_eq_false c62b2; simp only [ByteArray.size_append, ByteArray.size_extract] at h_; have hq1 := of_eq_true c39b0; have hq2 := of_eq_true c40b0; have := (show (⟨#[48]⟩ : ByteArray).size = 1 from rfl); omega)
                                                                replace H := Option.bind_eq_some_iff.mp H
                                                                obtain ⟨⟨t161, t162⟩, A630, H⟩ := H
                                                                replace H : (if t161 = a0 then (if t162 = 0 then ((casketlaw4_awake.f k7).bind fun t163 => (some t163)) else (some false)) else (some false)) = some r := H
                                                                have A63 := Aside0.mk A630
                                                                clear A630
                                                                by_cases c64 : t161 = a0
                                                                · rw [if_pos c64] at H
                                                                  have c64b0 : (t161 == a0) = true := beq_iff_eq.mpr c64
                                                                  have c64b1 : (t161 != a0) = false := bne_eq_false_iff_eq.mpr c64
                                                                  clear c64
                                                                  by_cases c65 : t162 = 0
                                                                  · rw [if_pos c65] at H
                                                                    have c65b0 : (t162 == 0) = true := beq_iff_eq.mpr c65
                                                                    have c65b1 : (t162 != 0) = false := bne_eq_false_iff_eq.mpr c65
                                                                    clear c65
                                                                    replace H := Option.bind_eq_some_iff.mp H
                                                                    obtain ⟨t163, A660, H⟩ := H
                                                                    replace H : (some t163) = some r := H
                                                                    have A66 := Aside0.mk A660
                                                                    clear A660
                                                                    obtain rfl := Option.some.inj H
                                                                    go_wp2_with (first | ((with_reducible refine gate_callee (f := 12) rfl ?_); refine goesL_ (some 106) rfl rfl Tryd.func12 (by kernel_rfl) rfl #[.string ((((x6_14 ++ (x5_14.extract 0 (x11_7 : Int).toNat)) ++ (⟨#[48]⟩ : ByteArray)) ++ x7_5) ++ (x5_14.extract (x11_7 : Int).toNat x5_14.size))] rfl (by (try simp only [List.map_toArray, List.map_cons, List.map_nil]); first | done | rfl | (simp only [List.length_drop, List.length_take]; rfl)) ?_; (with_reducible refine (numtext_ParseFloat.calls (hG := (by first | exact Glob.at_ HG0.out (by repeat (first | (with_reducible first | exact HB.out | apply below_alloc | apply pw_below_drewN | apply below_drew1) | exact HB.out)) | exact Glob.at_ HG0.out (Below.refl _ _))) k7 ((((x6_14 ++ (x5_14.extract 0 (x11_7 : Int).toNat)) ++ (⟨#[48]⟩ : ByteArray)) ++ x7_5) ++ (x5_14.extract (x11_7 : Int).toNat x5_14.size)) t161 t162 _ A63.out).mono ?_); rintro e w67 ⟨rfl, hb⟩; refine ⟨_, rfl, ?_⟩; have n0_ := Aside0.mk (below_step (by repeat (first | (with_reducible first | exact HB.out | apply below_alloc | apply pw_below_drewN | apply below_drew1) | exact HB.out)) hb); clear HB; have HB := n0_; clear n0_; (try clear hb); (try clear hb2); (try clear hk); (try clear hi)) | (go_at_call 13; (with_reducible refine (casketlaw4_awake.calls (hG := (by first | exact Glob.at_ HG0.out (by repeat (first | (with_reducible first | exact HB.out | apply below_alloc | apply pw_below_drewN | apply below_drew1) | exact HB.out)) | exact Glob.at_ HG0.out (Below.refl _ _))) k7  t163 _ A66.out).mono ?_); rintro e w68 ⟨rfl, hb⟩; have n0_ := Aside0.mk (below_step (by repeat (first | (with_reducible first | exact HB.out | apply below_alloc | apply pw_below_drewN | apply below_drew1) | exact HB.out)) hb); clear HB; have HB := n0_; clear n0_; (try clear hb); (try clear hb2); (try clear hk); (try clear hi)))
                                                                    go_ret
                                                                    exact ⟨by first | rfl | (simp [errW_none, errW_some] <;> rfl) | (simp [*, errW_none, errW_some] <;> rfl), by repeat (first | (with_reducible first | exact HB.out | apply below_alloc | apply pw_below_drewN | apply below_drew1) | exact HB.out)⟩
                                                                  · rw [if_neg c65] at H
                                                                    have c65b0 : (t162 == 0) = false := beq_eq_false_iff_ne.mpr c65
                                                                    have c65b1 : (t162 != 0) = true := bne_iff_ne.mpr c65
                                                                    obtain rfl := Option.some.inj H
                                                                    go_wp2_with (first | ((with_reducible refine gate_callee (f := 12) rfl ?_); refine goesL_ (some 106) rfl rfl Tryd.func12 (by kernel_rfl) rfl #[.string ((((x6_14 ++ (x5_14.extract 0 (x11_7 : Int).toNat)) ++ (⟨#[48]⟩ : ByteArray)) ++ x7_5) ++ (x5_14.extract (x11_7 : Int).toNat x5_14.size))] rfl (by (try simp only [List.map_toArray, List.map_cons, List.map_nil]); first | done | rfl | (simp only [List.length_drop, List.length_take]; rfl)) ?_; (with_reducible refine (numtext_ParseFloat.calls (hG := (by first | exact Glob.at_ HG0.out (by repeat (first | (with_reducible first | exact HB.out | apply below_alloc | apply pw_below_drewN | apply below_drew1) | exact HB.out)) | exact Glob.at_ HG0.out (Below.refl _ _))) k7 ((((x6_14 ++ (x5_14.extract 0 (x11_7 : Int).toNat)) ++ (⟨#[48]⟩ : ByteArray)) ++ x7_5) ++ (x5_14.extract (x11_7 : Int).toNat x5_14.size)) t161 t162 _ A63.out).mono ?_); rintro e w69 ⟨rfl, hb⟩; refine ⟨_, rfl, ?_⟩; have n0_ := Aside0.mk (below_step (by repeat (first | (with_reducible first | exact HB.out | apply below_alloc | apply pw_below_drewN | apply below_drew1) | exact HB.out)) hb); clear HB; have HB := n0_; clear n0_; (try clear hb); (try clear hb2); (try clear hk); (try clear hi)))
                                                                    go_ret
                                                                    exact ⟨by first | rfl | (simp [errW_none, errW_some] <;> rfl) | (simp [*, errW_none, errW_some] <;> rfl), by repeat (first | (with_reducible first | exact HB.out | apply below_alloc | apply pw_below_drewN | apply below_drew1) | exact HB.out)⟩
                                                                · rw [if_neg c64] at H
                                                                  have c64b0 : (t161 == a0) = false := beq_eq_false_iff_ne.mpr c64
                                                                  have c64b1 : (t161 != a0) = true := bne_iff_ne.mpr c64
                                                                  obtain rfl := Option.some.inj H
                                                                  go_wp2_with (first | ((with_reducible refine gate_callee (f := 12) rfl ?_); refine goesL_ (some 106) rfl rfl Tryd.func12 (by kernel_rfl) rfl #[.string ((((x6_14 ++ (x5_14.extract 0 (x11_7 : Int).toNat)) ++ (⟨#[48]⟩ : ByteArray)) ++ x7_5) ++ (x5_14.extract (x11_7 : Int).toNat x5_14.size))] rfl (by (try simp only [List.map_toArray, List.map_cons, List.map_nil]); first | done | rfl | (simp only [List.length_drop, List.length_take]; rfl)) ?_; (with_reducible refine (numtext_ParseFloat.calls (hG := (by first | exact Glob.at_ HG0.out (by repeat (first | (with_reducible first | exact HB.out | apply below_alloc | apply pw_below_drewN | apply below_drew1) | exact HB.out)) | exact Glob.at_ HG0.out (Below.refl _ _))) k7 ((((x6_14 ++ (x5_14.extract 0 (x11_7 : Int).toNat)) ++ (⟨#[48]⟩ : ByteArray)) ++ x7_5) ++ (x5_14.extract (x11_7 : Int).toNat x5_14.size)) t161 t162 _ A63.out).mono ?_); rintro e w70 ⟨rfl, hb⟩; refine ⟨_, rfl, ?_⟩; have n0_ := Aside0.mk (below_step (by repeat (first | (with_reducible first | exact HB.out | apply below_alloc | apply pw_below_drewN | apply below_drew1) | exact HB.out)) hb); clear HB; have HB := n0_; clear n0_; (try clear hb); (try clear hb2); (try clear hk); (try clear hi)))
                                                                  go_ret
                                                                  exact ⟨by first | rfl | (simp [errW_none, errW_some] <;> rfl) | (simp [*, errW_none, errW_some] <;> rfl), by repeat (first | (with_reducible first | exact HB.out | apply below_alloc | apply pw_below_drewN | apply below_drew1) | exact HB.out)⟩
                                                              · rw [if_neg c62] at H
                                                                exact absurd H (by simp)
                                                            · rw [if_neg c59] at H
                                                              exact absurd H (by simp)
                                                          · rw [if_neg c58] at H
                                                            exact absurd H (by simp)
                                                        · rw [if_neg c57] at H
                                                          exact absurd H (by simp)
                                                    · rw [if_neg c40] at H
                                                      exact absurd H (by simp)
                                                  · rw [if_neg c39] at H
                                                    exact absurd H (by simp)
                                  · rw [if_neg c28] at H
                                    exact absurd H (by simp)
                                · rw [if_neg c27] at H
                                  exact absurd H (by simp)
                              · rw [if_neg c26] at H
                                exact absurd H (by simp)
                            · rw [if_neg c25] at H
                              exact absurd H (by simp)

/-- THE ONE PURE STATEMENT of casketlaw4_TextShifts: yours. -/
def casketlaw4_TextShifts.Pure : Prop := ∀ (a0 : Int) (a1 : Int), (Lit.int .u64 a0).wf = true → (Lit.int .i64 a1).wf = true → ∃ k, casketlaw4_TextShifts.f k a0 a1 = some true
theorem casketlaw4_TextShifts.walk (P : casketlaw4_TextShifts.Pure) (a0 : Int) (a1 : Int) (w : World) (hG : Glob w) (w0 : (Lit.int .u64 a0).wf = true) (w1 : (Lit.int .i64 a1).wf = true) :
    Calls Tryd.prog 3 #[.int .u64 a0, .int .i64 a1] w fun e w' => e = .returned (.bool true) ∧ Below w.heap.size w w' := by
  obtain ⟨k, h⟩ := P a0 a1 w0 w1
  refine (casketlaw4_TextShifts.calls (hG := hG) k a0 a1 true w h).mono ?_
  rintro e w' ⟨rfl, hd⟩
  exact ⟨rfl, hd⟩

end Go.Proofs.YtjdnneomkocghaaDoor.Print
