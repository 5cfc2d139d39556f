-- Written by a program of this session (wip/tools/myprint.py, over the kit's print.py). Not trusted: Lean checks it.
import Derived.Test.YtjdnneomkocghaaDoorPrint0
import Derived.Test.YtjdnneomkocghaaDoorPrint10
import Derived.Test.YtjdnneomkocghaaDoorPrint11
namespace Go.Proofs.YtjdnneomkocghaaDoor.Print
open Go.RowKit Go.Proofs.YtjdnneomkocghaaDoor.Given Go.Proofs.YtjdnneomkocghaaDoorW.PrintWords Go.Proofs.YtjdnneomkocghaaDoorW.PrintLast Go.Proofs.YtjdnneomkocghaaDoorW.PrintMore
attribute [local go_sem] max2_int min2_int max_two min_two max_three min_three max_four min_four   -- for this text's walks alone
set_option linter.unusedVariables false
set_option linter.unusedSimpArgs false

/-! ### casketref4_ParseFloat: function 21 -/
mutual
def casketref4_ParseFloat.j0 : Nat → ByteArray → Int → Bool → Option (Int × Int)
  | 0, _, _, _ => none
  | k + 1, x0, x4, x27 => if x27 = true then (if 1 ≤ (x0.size : Int) then (casketref4_ParseFloat.j1 k (x0.extract 1 x0.size) 9223372036854775808) else (none)) else (casketref4_ParseFloat.j1 k x0 x4)
def casketref4_ParseFloat.j1 : Nat → ByteArray → Int → Option (Int × Int)
  | 0, _, _ => none
  | k + 1, x0, x4 => if (x0.size : Int) < 2 then (casketref4_ParseFloat.j2 k x0 x4 true) else (if 0 < (x0.size : Int) then (if (bt x0 0) = 48 then (if 1 < (x0.size : Int) then (casketref4_ParseFloat.j2 k x0 x4 ((bt x0 1) != 120)) else (none)) else (casketref4_ParseFloat.j2 k x0 x4 true)) else (none))
def casketref4_ParseFloat.j2 : Nat → ByteArray → Int → Bool → Option (Int × Int)
  | 0, _, _, _ => none
  | k + 1, x0, x4, x42 => if x42 = true then (some (0, 20)) else (casketref4_ParseFloat.l0 k x0 x4 2 ([] : List Int) 0 0)
def casketref4_ParseFloat.l0 : Nat → ByteArray → Int → Int → List Int → Int → Int → Option (Int × Int)
  | 0, _, _, _, _, _, _ => none
  | k + 1, x0, x4, x5, x6, x7, x8 => if x5 < (x0.size : Int) then (if 0 ≤ x5 then ((casketref4_hex.f k (bt x0 x5)).bind fun t231 => (casketref4_ParseFloat.j4 k x0 x4 x5 x6 x7 x8 (decide (t231 ≥ 0)))) else (none)) else (casketref4_ParseFloat.j4 k x0 x4 x5 x6 x7 x8 false)
def casketref4_ParseFloat.j4 : Nat → ByteArray → Int → Int → List Int → Int → Int → Bool → Option (Int × Int)
  | 0, _, _, _, _, _, _, _ => none
  | k + 1, x0, x4, x5, x6, x7, x8, x53 => if x53 = true then (if 0 ≤ x5 then (if x5 < (x0.size : Int) then ((casketref4_hex.f k (bt x0 x5)).bind fun t232 => ((casketref4_nibble.f x6 t232).bind fun t233 => (casketref4_ParseFloat.l0 k x0 x4 (wrap64 (x5 + 1)) t233 (wrap64 (x7 + 1)) x8))) else (none)) else (none)) else (if x7 = 0 then (some (0, 20)) else (if x5 < (x0.size : Int) then (if 0 ≤ x5 then (casketref4_ParseFloat.j5 k x0 x4 x5 x6 x8 ((bt x0 x5) == 46)) else (none)) else (casketref4_ParseFloat.j5 k x0 x4 x5 x6 x8 false)))
def casketref4_ParseFloat.j5 : Nat → ByteArray → Int → Int → List Int → Int → Bool → Option (Int × Int)
  | 0, _, _, _, _, _, _ => none
  | k + 1, x0, x4, x5, x6, x8, x75 => if x75 = true then (casketref4_ParseFloat.l1 k x0 x4 (wrap64 (x5 + 1)) x6 x8) else (casketref4_ParseFloat.j8 k x0 x4 x5 x6 x8)
def casketref4_ParseFloat.j8 : Nat → ByteArray → Int → Int → List Int → Int → Option (Int × Int)
  | 0, _, _, _, _, _ => none
  | k + 1, x0, x4, x5, x6, x8 => if (wrap64 (x5 + 1)) ≥ (x0.size : Int) then (casketref4_ParseFloat.j9 k x0 x4 x5 x6 x8 true) else (if 0 ≤ x5 then (if x5 < (x0.size : Int) then (if (bt x0 x5) = 112 then (if 0 ≤ (wrap64 (x5 + 1)) then (if (wrap64 (x5 + 1)) < (x0.size : Int) then (if (bt x0 (wrap64 (x5 + 1))) = 43 then (casketref4_ParseFloat.j9 k x0 x4 x5 x6 x8 false) else (casketref4_ParseFloat.j9 k x0 x4 x5 x6 x8 ((bt x0 (wrap64 (x5 + 1))) != 45))) else (none)) else (none)) else (casketref4_ParseFloat.j9 k x0 x4 x5 x6 x8 true)) else (none)) else (none))
def casketref4_ParseFloat.j9 : Nat → ByteArray → Int → Int → List Int → Int → Bool → Option (Int × Int)
  | 0, _, _, _, _, _, _ => none
  | k + 1, x0, x4, x5, x6, x8, x125 => if x125 = true then (some (0, 20)) else (if 0 ≤ (wrap64 (x5 + 1)) then (if (wrap64 (x5 + 1)) < (x0.size : Int) then (if (wrap64 (x5 + 2)) = (x0.size : Int) then (casketref4_ParseFloat.j10 k x0 x4 (wrap64 (x5 + 2)) x6 x8 ((bt x0 (wrap64 (x5 + 1))) == 45) true) else (casketref4_ParseFloat.j10 k x0 x4 (wrap64 (x5 + 2)) x6 x8 ((bt x0 (wrap64 (x5 + 1))) == 45) (decide ((wrap64 ((x0.size : Int) - (wrap64 (x5 + 2)))) > 5)))) else (none)) else (none))
def casketref4_ParseFloat.j10 : Nat → ByteArray → Int → Int → List Int → Int → Bool → Bool → Option (Int × Int)
  | 0, _, _, _, _, _, _, _ => none
  | k + 1, x0, x4, x5, x6, x8, x9, x143 => if x143 = true then (some (0, 20)) else (casketref4_ParseFloat.l2 k x0 x4 x5 x6 x8 x9 0)
def casketref4_ParseFloat.l2 : Nat → ByteArray → Int → Int → List Int → Int → Bool → Int → Option (Int × Int)
  | 0, _, _, _, _, _, _, _ => none
  | k + 1, x0, x4, x5, x6, x8, x9, x10 => if x5 < (x0.size : Int) then (if 0 ≤ x5 then (if (bt x0 x5) < 48 then (some (0, 20)) else (if (bt x0 x5) > 57 then (some (0, 20)) else (casketref4_ParseFloat.l2 k x0 x4 (wrap64 (x5 + 1)) x6 x8 x9 (wrap64 ((wrap64 (10 * x10)) + (((bt x0 x5) - 48) % 256)))))) else (none)) else (if x9 = true then ((casketref4_exact.f k x4 x6 (wrap64 ((wrap64 (-x10)) - (wrap64 (4 * x8))))).bind fun bt241 => (some (bt241.1, bt241.2))) else ((casketref4_exact.f k x4 x6 (wrap64 (x10 - (wrap64 (4 * x8))))).bind fun bt243 => (some (bt243.1, bt243.2))))
def casketref4_ParseFloat.l1 : Nat → ByteArray → Int → Int → List Int → Int → Option (Int × Int)
  | 0, _, _, _, _, _ => none
  | k + 1, x0, x4, x5, x6, x8 => if x5 < (x0.size : Int) then (if 0 ≤ x5 then ((casketref4_hex.f k (bt x0 x5)).bind fun t236 => (casketref4_ParseFloat.j7 k x0 x4 x5 x6 x8 (decide (t236 ≥ 0)))) else (none)) else (casketref4_ParseFloat.j7 k x0 x4 x5 x6 x8 false)
def casketref4_ParseFloat.j7 : Nat → ByteArray → Int → Int → List Int → Int → Bool → Option (Int × Int)
  | 0, _, _, _, _, _, _ => none
  | k + 1, x0, x4, x5, x6, x8, x88 => if x88 = true then (if 0 ≤ x5 then (if x5 < (x0.size : Int) then ((casketref4_hex.f k (bt x0 x5)).bind fun t237 => ((casketref4_nibble.f x6 t237).bind fun t238 => (casketref4_ParseFloat.l1 k x0 x4 (wrap64 (x5 + 1)) t238 (wrap64 (x8 + 1))))) else (none)) else (none)) else (if x8 = 0 then (some (0, 20)) else (casketref4_ParseFloat.j8 k x0 x4 x5 x6 x8))
end
def casketref4_ParseFloat.f (k : Nat) (a0 : ByteArray) : Option (Int × Int) := if (a0.size : Int) > 64 then (some (0, 2)) else (if a0.toList = ([110, 97, 110] : List UInt8) then (some (9221120237041090560, 0)) else (if a0.toList = ([105, 110, 102] : List UInt8) then (some (9218868437227405312, 0)) else (if a0.toList = ([45, 105, 110, 102] : List UInt8) then (some (18442240474082181120, 0)) else (if a0.toList = ([] : List UInt8) then (casketref4_ParseFloat.j0 k a0 0 false) else (if 0 < (a0.size : Int) then (casketref4_ParseFloat.j0 k a0 0 ((bt a0 0) == 45)) else (none))))))
theorem casketref4_ParseFloat.mono_l : ∀ k, (∀ y0 y1 y2, LeO (casketref4_ParseFloat.j0 k y0 y1 y2) (casketref4_ParseFloat.j0 (k + 1) y0 y1 y2)) ∧ (∀ y0 y1, LeO (casketref4_ParseFloat.j1 k y0 y1) (casketref4_ParseFloat.j1 (k + 1) y0 y1)) ∧ (∀ y0 y1 y2, LeO (casketref4_ParseFloat.j2 k y0 y1 y2) (casketref4_ParseFloat.j2 (k + 1) y0 y1 y2)) ∧ (∀ y0 y1 y2 y3 y4 y5, LeO (casketref4_ParseFloat.l0 k y0 y1 y2 y3 y4 y5) (casketref4_ParseFloat.l0 (k + 1) y0 y1 y2 y3 y4 y5)) ∧ (∀ y0 y1 y2 y3 y4 y5 y6, LeO (casketref4_ParseFloat.j4 k y0 y1 y2 y3 y4 y5 y6) (casketref4_ParseFloat.j4 (k + 1) y0 y1 y2 y3 y4 y5 y6)) ∧ (∀ y0 y1 y2 y3 y4 y5, LeO (casketref4_ParseFloat.j5 k y0 y1 y2 y3 y4 y5) (casketref4_ParseFloat.j5 (k + 1) y0 y1 y2 y3 y4 y5)) ∧ (∀ y0 y1 y2 y3 y4, LeO (casketref4_ParseFloat.j8 k y0 y1 y2 y3 y4) (casketref4_ParseFloat.j8 (k + 1) y0 y1 y2 y3 y4)) ∧ (∀ y0 y1 y2 y3 y4 y5, LeO (casketref4_ParseFloat.j9 k y0 y1 y2 y3 y4 y5) (casketref4_ParseFloat.j9 (k + 1) y0 y1 y2 y3 y4 y5)) ∧ (∀ y0 y1 y2 y3 y4 y5 y6, LeO (casketref4_ParseFloat.j10 k y0 y1 y2 y3 y4 y5 y6) (casketref4_ParseFloat.j10 (k + 1) y0 y1 y2 y3 y4 y5 y6)) ∧ (∀ y0 y1 y2 y3 y4 y5 y6, LeO (casketref4_ParseFloat.l2 k y0 y1 y2 y3 y4 y5 y6) (casketref4_ParseFloat.l2 (k + 1) y0 y1 y2 y3 y4 y5 y6)) ∧ (∀ y0 y1 y2 y3 y4, LeO (casketref4_ParseFloat.l1 k y0 y1 y2 y3 y4) (casketref4_ParseFloat.l1 (k + 1) y0 y1 y2 y3 y4)) ∧ (∀ y0 y1 y2 y3 y4 y5, LeO (casketref4_ParseFloat.j7 k y0 y1 y2 y3 y4 y5) (casketref4_ParseFloat.j7 (k + 1) y0 y1 y2 y3 y4 y5))
  | 0 => ⟨fun _ _ _ r h => by simp [casketref4_ParseFloat.j0] at h, fun _ _ r h => by simp [casketref4_ParseFloat.j1] at h, fun _ _ _ r h => by simp [casketref4_ParseFloat.j2] at h, fun _ _ _ _ _ _ r h => by simp [casketref4_ParseFloat.l0] at h, fun _ _ _ _ _ _ _ r h => by simp [casketref4_ParseFloat.j4] at h, fun _ _ _ _ _ _ r h => by simp [casketref4_ParseFloat.j5] at h, fun _ _ _ _ _ r h => by simp [casketref4_ParseFloat.j8] at h, fun _ _ _ _ _ _ r h => by simp [casketref4_ParseFloat.j9] at h, fun _ _ _ _ _ _ _ r h => by simp [casketref4_ParseFloat.j10] at h, fun _ _ _ _ _ _ _ r h => by simp [casketref4_ParseFloat.l2] at h, fun _ _ _ _ _ r h => by simp [casketref4_ParseFloat.l1] at h, fun _ _ _ _ _ _ r h => by simp [casketref4_ParseFloat.j7] at h⟩
  | k + 1 => by
    obtain ⟨ih0, ih1, ih2, ih3, ih4, ih5, ih6, ih7, ih8, ih9, ih10, ih11⟩ := casketref4_ParseFloat.mono_l k
    refine ⟨?_, ?_, ?_, ?_, ?_, ?_, ?_, ?_, ?_, ?_, ?_, ?_⟩
    · intro y0 y1 y2
      unfold casketref4_ParseFloat.j0
      repeat' first
      | (with_reducible exact ih0 _ _ _)
      | (with_reducible exact ih1 _ _)
      | (with_reducible exact ih2 _ _ _)
      | (with_reducible exact ih3 _ _ _ _ _ _)
      | (with_reducible exact ih4 _ _ _ _ _ _ _)
      | (with_reducible exact ih5 _ _ _ _ _ _)
      | (with_reducible exact ih6 _ _ _ _ _)
      | (with_reducible exact ih7 _ _ _ _ _ _)
      | (with_reducible exact ih8 _ _ _ _ _ _ _)
      | (with_reducible exact ih9 _ _ _ _ _ _ _)
      | (with_reducible exact ih10 _ _ _ _ _)
      | (with_reducible exact ih11 _ _ _ _ _ _)
      | (with_reducible exact casketref4_exact.mono _ _ _ _)
      | (with_reducible exact casketref4_hex.mono _ _)
      | (with_reducible exact LeO.refl _)
      | (with_reducible exact LeO.none _)
      | (with_reducible refine LeO.ite ?_ ?_)
      | (with_reducible refine LeO.bind ?_ (fun _ => ?_))
      | exact ih0 _ _ _
      | exact ih1 _ _
      | exact ih2 _ _ _
      | exact ih3 _ _ _ _ _ _
      | exact ih4 _ _ _ _ _ _ _
      | exact ih5 _ _ _ _ _ _
      | exact ih6 _ _ _ _ _
      | exact ih7 _ _ _ _ _ _
      | exact ih8 _ _ _ _ _ _ _
      | exact ih9 _ _ _ _ _ _ _
      | exact ih10 _ _ _ _ _
      | exact ih11 _ _ _ _ _ _
      | exact casketref4_exact.mono _ _ _ _
      | exact casketref4_hex.mono _ _
      | exact LeO.none _
      | refine LeO.ite ?_ ?_
      | refine LeO.bind ?_ (fun _ => ?_)
    · intro y0 y1
      unfold casketref4_ParseFloat.j1
      repeat' first
      | (with_reducible exact ih0 _ _ _)
      | (with_reducible exact ih1 _ _)
      | (with_reducible exact ih2 _ _ _)
      | (with_reducible exact ih3 _ _ _ _ _ _)
      | (with_reducible exact ih4 _ _ _ _ _ _ _)
      | (with_reducible exact ih5 _ _ _ _ _ _)
      | (with_reducible exact ih6 _ _ _ _ _)
      | (with_reducible exact ih7 _ _ _ _ _ _)
      | (with_reducible exact ih8 _ _ _ _ _ _ _)
      | (with_reducible exact ih9 _ _ _ _ _ _ _)
      | (with_reducible exact ih10 _ _ _ _ _)
      | (with_reducible exact ih11 _ _ _ _ _ _)
      | (with_reducible exact casketref4_exact.mono _ _ _ _)
      | (with_reducible exact casketref4_hex.mono _ _)
      | (with_reducible exact LeO.refl _)
      | (with_reducible exact LeO.none _)
      | (with_reducible refine LeO.ite ?_ ?_)
      | (with_reducible refine LeO.bind ?_ (fun _ => ?_))
      | exact ih0 _ _ _
      | exact ih1 _ _
      | exact ih2 _ _ _
      | exact ih3 _ _ _ _ _ _
      | exact ih4 _ _ _ _ _ _ _
      | exact ih5 _ _ _ _ _ _
      | exact ih6 _ _ _ _ _
      | exact ih7 _ _ _ _ _ _
      | exact ih8 _ _ _ _ _ _ _
      | exact ih9 _ _ _ _ _ _ _
      | exact ih10 _ _ _ _ _
      | exact ih11 _ _ _ _ _ _
      | exact casketref4_exact.mono _ _ _ _
      | exact casketref4_hex.mono _ _
      | exact LeO.none _
      | refine LeO.ite ?_ ?_
      | refine LeO.bind ?_ (fun _ => ?_)
    · intro y0 y1 y2
      unfold casketref4_ParseFloat.j2
      repeat' first
      | (with_reducible exact ih0 _ _ _)
      | (with_reducible exact ih1 _ _)
      | (with_reducible exact ih2 _ _ _)
      | (with_reducible exact ih3 _ _ _ _ _ _)
      | (with_reducible exact ih4 _ _ _ _ _ _ _)
      | (with_reducible exact ih5 _ _ _ _ _ _)
      | (with_reducible exact ih6 _ _ _ _ _)
      | (with_reducible exact ih7 _ _ _ _ _ _)
      | (with_reducible exact ih8 _ _ _ _ _ _ _)
      | (with_reducible exact ih9 _ _ _ _ _ _ _)
      | (with_reducible exact ih10 _ _ _ _ _)
      | (with_reducible exact ih11 _ _ _ _ _ _)
      | (with_reducible exact casketref4_exact.mono _ _ _ _)
      | (with_reducible exact casketref4_hex.mono _ _)
      | (with_reducible exact LeO.refl _)
      | (with_reducible exact LeO.none _)
      | (with_reducible refine LeO.ite ?_ ?_)
      | (with_reducible refine LeO.bind ?_ (fun _ => ?_))
      | exact ih0 _ _ _
      | exact ih1 _ _
      | exact ih2 _ _ _
      | exact ih3 _ _ _ _ _ _
      | exact ih4 _ _ _ _ _ _ _
      | exact ih5 _ _ _ _ _ _
      | exact ih6 _ _ _ _ _
      | exact ih7 _ _ _ _ _ _
      | exact ih8 _ _ _ _ _ _ _
      | exact ih9 _ _ _ _ _ _ _
      | exact ih10 _ _ _ _ _
      | exact ih11 _ _ _ _ _ _
      | exact casketref4_exact.mono _ _ _ _
      | exact casketref4_hex.mono _ _
      | exact LeO.none _
      | refine LeO.ite ?_ ?_
      | refine LeO.bind ?_ (fun _ => ?_)
    · intro y0 y1 y2 y3 y4 y5
      unfold casketref4_ParseFloat.l0
      repeat' first
      | (with_reducible exact ih0 _ _ _)
      | (with_reducible exact ih1 _ _)
      | (with_reducible exact ih2 _ _ _)
      | (with_reducible exact ih3 _ _ _ _ _ _)
      | (with_reducible exact ih4 _ _ _ _ _ _ _)
      | (with_reducible exact ih5 _ _ _ _ _ _)
      | (with_reducible exact ih6 _ _ _ _ _)
      | (with_reducible exact ih7 _ _ _ _ _ _)
      | (with_reducible exact ih8 _ _ _ _ _ _ _)
      | (with_reducible exact ih9 _ _ _ _ _ _ _)
      | (with_reducible exact ih10 _ _ _ _ _)
      | (with_reducible exact ih11 _ _ _ _ _ _)
      | (with_reducible exact casketref4_exact.mono _ _ _ _)
      | (with_reducible exact casketref4_hex.mono _ _)
      | (with_reducible exact LeO.refl _)
      | (with_reducible exact LeO.none _)
      | (with_reducible refine LeO.ite ?_ ?_)
      | (with_reducible refine LeO.bind ?_ (fun _ => ?_))
      | exact ih0 _ _ _
      | exact ih1 _ _
      | exact ih2 _ _ _
      | exact ih3 _ _ _ _ _ _
      | exact ih4 _ _ _ _ _ _ _
      | exact ih5 _ _ _ _ _ _
      | exact ih6 _ _ _ _ _
      | exact ih7 _ _ _ _ _ _
      | exact ih8 _ _ _ _ _ _ _
      | exact ih9 _ _ _ _ _ _ _
      | exact ih10 _ _ _ _ _
      | exact ih11 _ _ _ _ _ _
      | exact casketref4_exact.mono _ _ _ _
      | exact casketref4_hex.mono _ _
      | exact LeO.none _
      | refine LeO.ite ?_ ?_
      | refine LeO.bind ?_ (fun _ => ?_)
    · intro y0 y1 y2 y3 y4 y5 y6
      unfold casketref4_ParseFloat.j4
      repeat' first
      | (with_reducible exact ih0 _ _ _)
      | (with_reducible exact ih1 _ _)
      | (with_reducible exact ih2 _ _ _)
      | (with_reducible exact ih3 _ _ _ _ _ _)
      | (with_reducible exact ih4 _ _ _ _ _ _ _)
      | (with_reducible exact ih5 _ _ _ _ _ _)
      | (with_reducible exact ih6 _ _ _ _ _)
      | (with_reducible exact ih7 _ _ _ _ _ _)
      | (with_reducible exact ih8 _ _ _ _ _ _ _)
      | (with_reducible exact ih9 _ _ _ _ _ _ _)
      | (with_reducible exact ih10 _ _ _ _ _)
      | (with_reducible exact ih11 _ _ _ _ _ _)
      | (with_reducible exact casketref4_exact.mono _ _ _ _)
      | (with_reducible exact casketref4_hex.mono _ _)
      | (with_reducible exact LeO.refl _)
      | (with_reducible exact LeO.none _)
      | (with_reducible refine LeO.ite ?_ ?_)
      | (with_reducible refine LeO.bind ?_ (fun _ => ?_))
      | exact ih0 _ _ _
      | exact ih1 _ _
      | exact ih2 _ _ _
      | exact ih3 _ _ _ _ _ _
      | exact ih4 _ _ _ _ _ _ _
      | exact ih5 _ _ _ _ _ _
      | exact ih6 _ _ _ _ _
      | exact ih7 _ _ _ _ _ _
      | exact ih8 _ _ _ _ _ _ _
      | exact ih9 _ _ _ _ _ _ _
      | exact ih10 _ _ _ _ _
      | exact ih11 _ _ _ _ _ _
      | exact casketref4_exact.mono _ _ _ _
      | exact casketref4_hex.mono _ _
      | exact LeO.none _
      | refine LeO.ite ?_ ?_
      | refine LeO.bind ?_ (fun _ => ?_)
    · intro y0 y1 y2 y3 y4 y5
      unfold casketref4_ParseFloat.j5
      repeat' first
      | (with_reducible exact ih0 _ _ _)
      | (with_reducible exact ih1 _ _)
      | (with_reducible exact ih2 _ _ _)
      | (with_reducible exact ih3 _ _ _ _ _ _)
      | (with_reducible exact ih4 _ _ _ _ _ _ _)
      | (with_reducible exact ih5 _ _ _ _ _ _)
      | (with_reducible exact ih6 _ _ _ _ _)
      | (with_reducible exact ih7 _ _ _ _ _ _)
      | (with_reducible exact ih8 _ _ _ _ _ _ _)
      | (with_reducible exact ih9 _ _ _ _ _ _ _)
      | (with_reducible exact ih10 _ _ _ _ _)
      | (with_reducible exact ih11 _ _ _ _ _ _)
      | (with_reducible exact casketref4_exact.mono _ _ _ _)
      | (with_reducible exact casketref4_hex.mono _ _)
      | (with_reducible exact LeO.refl _)
      | (with_reducible exact LeO.none _)
      | (with_reducible refine LeO.ite ?_ ?_)
      | (with_reducible refine LeO.bind ?_ (fun _ => ?_))
      | exact ih0 _ _ _
      | exact ih1 _ _
      | exact ih2 _ _ _
      | exact ih3 _ _ _ _ _ _
      | exact ih4 _ _ _ _ _ _ _
      | exact ih5 _ _ _ _ _ _
      | exact ih6 _ _ _ _ _
      | exact ih7 _ _ _ _ _ _
      | exact ih8 _ _ _ _ _ _ _
      | exact ih9 _ _ _ _ _ _ _
      | exact ih10 _ _ _ _ _
      | exact ih11 _ _ _ _ _ _
      | exact casketref4_exact.mono _ _ _ _
      | exact casketref4_hex.mono _ _
      | exact LeO.none _
      | refine LeO.ite ?_ ?_
      | refine LeO.bind ?_ (fun _ => ?_)
    · intro y0 y1 y2 y3 y4
      unfold casketref4_ParseFloat.j8
      repeat' first
      | (with_reducible exact ih0 _ _ _)
      | (with_reducible exact ih1 _ _)
      | (with_reducible exact ih2 _ _ _)
      | (with_reducible exact ih3 _ _ _ _ _ _)
      | (with_reducible exact ih4 _ _ _ _ _ _ _)
      | (with_reducible exact ih5 _ _ _ _ _ _)
      | (with_reducible exact ih6 _ _ _ _ _)
      | (with_reducible exact ih7 _ _ _ _ _ _)
      | (with_reducible exact ih8 _ _ _ _ _ _ _)
      | (with_reducible exact ih9 _ _ _ _ _ _ _)
      | (with_reducible exact ih10 _ _ _ _ _)
      | (with_reducible exact ih11 _ _ _ _ _ _)
      | (with_reducible exact casketref4_exact.mono _ _ _ _)
      | (with_reducible exact casketref4_hex.mono _ _)
      | (with_reducible exact LeO.refl _)
      | (with_reducible exact LeO.none _)
      | (with_reducible refine LeO.ite ?_ ?_)
      | (with_reducible refine LeO.bind ?_ (fun _ => ?_))
      | exact ih0 _ _ _
      | exact ih1 _ _
      | exact ih2 _ _ _
      | exact ih3 _ _ _ _ _ _
      | exact ih4 _ _ _ _ _ _ _
      | exact ih5 _ _ _ _ _ _
      | exact ih6 _ _ _ _ _
      | exact ih7 _ _ _ _ _ _
      | exact ih8 _ _ _ _ _ _ _
      | exact ih9 _ _ _ _ _ _ _
      | exact ih10 _ _ _ _ _
      | exact ih11 _ _ _ _ _ _
      | exact casketref4_exact.mono _ _ _ _
      | exact casketref4_hex.mono _ _
      | exact LeO.none _
      | refine LeO.ite ?_ ?_
      | refine LeO.bind ?_ (fun _ => ?_)
    · intro y0 y1 y2 y3 y4 y5
      unfold casketref4_ParseFloat.j9
      repeat' first
      | (with_reducible exact ih0 _ _ _)
      | (with_reducible exact ih1 _ _)
      | (with_reducible exact ih2 _ _ _)
      | (with_reducible exact ih3 _ _ _ _ _ _)
      | (with_reducible exact ih4 _ _ _ _ _ _ _)
      | (with_reducible exact ih5 _ _ _ _ _ _)
      | (with_reducible exact ih6 _ _ _ _ _)
      | (with_reducible exact ih7 _ _ _ _ _ _)
      | (with_reducible exact ih8 _ _ _ _ _ _ _)
      | (with_reducible exact ih9 _ _ _ _ _ _ _)
      | (with_reducible exact ih10 _ _ _ _ _)
      | (with_reducible exact ih11 _ _ _ _ _ _)
      | (with_reducible exact casketref4_exact.mono _ _ _ _)
      | (with_reducible exact casketref4_hex.mono _ _)
      | (with_reducible exact LeO.refl _)
      | (with_reducible exact LeO.none _)
      | (with_reducible refine LeO.ite ?_ ?_)
      | (with_reducible refine LeO.bind ?_ (fun _ => ?_))
      | exact ih0 _ _ _
      | exact ih1 _ _
      | exact ih2 _ _ _
      | exact ih3 _ _ _ _ _ _
      | exact ih4 _ _ _ _ _ _ _
      | exact ih5 _ _ _ _ _ _
      | exact ih6 _ _ _ _ _
      | exact ih7 _ _ _ _ _ _
      | exact ih8 _ _ _ _ _ _ _
      | exact ih9 _ _ _ _ _ _ _
      | exact ih10 _ _ _ _ _
      | exact ih11 _ _ _ _ _ _
      | exact casketref4_exact.mono _ _ _ _
      | exact casketref4_hex.mono _ _
      | exact LeO.none _
      | refine LeO.ite ?_ ?_
      | refine LeO.bind ?_ (fun _ => ?_)
    · intro y0 y1 y2 y3 y4 y5 y6
      unfold casketref4_ParseFloat.j10
      repeat' first
      | (with_reducible exact ih0 _ _ _)
      | (with_reducible exact ih1 _ _)
      | (with_reducible exact ih2 _ _ _)
      | (with_reducible exact ih3 _ _ _ _ _ _)
      | (with_reducible exact ih4 _ _ _ _ _ _ _)
      | (with_reducible exact ih5 _ _ _ _ _ _)
      | (with_reducible exact ih6 _ _ _ _ _)
      | (with_reducible exact ih7 _ _ _ _ _ _)
      | (with_reducible exact ih8 _ _ _ _ _ _ _)
      | (with_reducible exact ih9 _ _ _ _ _ _ _)
      | (with_reducible exact ih10 _ _ _ _ _)
      | (with_reducible exact ih11 _ _ _ _ _ _)
      | (with_reducible exact casketref4_exact.mono _ _ _ _)
      | (with_reducible exact casketref4_hex.mono _ _)
      | (with_reducible exact LeO.refl _)
      | (with_reducible exact LeO.none _)
      | (with_reducible refine LeO.ite ?_ ?_)
      | (with_reducible refine LeO.bind ?_ (fun _ => ?_))
      | exact ih0 _ _ _
      | exact ih1 _ _
      | exact ih2 _ _ _
      | exact ih3 _ _ _ _ _ _
      | exact ih4 _ _ _ _ _ _ _
      | exact ih5 _ _ _ _ _ _
      | exact ih6 _ _ _ _ _
      | exact ih7 _ _ _ _ _ _
      | exact ih8 _ _ _ _ _ _ _
      | exact ih9 _ _ _ _ _ _ _
      | exact ih10 _ _ _ _ _
      | exact ih11 _ _ _ _ _ _
      | exact casketref4_exact.mono _ _ _ _
      | exact casketref4_hex.mono _ _
      | exact LeO.none _
      | refine LeO.ite ?_ ?_
      | refine LeO.bind ?_ (fun _ => ?_)
    · intro y0 y1 y2 y3 y4 y5 y6
      unfold casketref4_ParseFloat.l2
      repeat' first
      | (with_reducible exact ih0 _ _ _)
      | (with_reducible exact ih1 _ _)
      | (with_reducible exact ih2 _ _ _)
      | (with_reducible exact ih3 _ _ _ _ _ _)
      | (with_reducible exact ih4 _ _ _ _ _ _ _)
      | (with_reducible exact ih5 _ _ _ _ _ _)
      | (with_reducible exact ih6 _ _ _ _ _)
      | (with_reducible exact ih7 _ _ _ _ _ _)
      | (with_reducible exact ih8 _ _ _ _ _ _ _)
      | (with_reducible exact ih9 _ _ _ _ _ _ _)
      | (with_reducible exact ih10 _ _ _ _ _)
      | (with_reducible exact ih11 _ _ _ _ _ _)
      | (with_reducible exact casketref4_exact.mono _ _ _ _)
      | (with_reducible exact casketref4_hex.mono _ _)
      | (with_reducible exact LeO.refl _)
      | (with_reducible exact LeO.none _)
      | (with_reducible refine LeO.ite ?_ ?_)
      | (with_reducible refine LeO.bind ?_ (fun _ => ?_))
      | exact ih0 _ _ _
      | exact ih1 _ _
      | exact ih2 _ _ _
      | exact ih3 _ _ _ _ _ _
      | exact ih4 _ _ _ _ _ _ _
      | exact ih5 _ _ _ _ _ _
      | exact ih6 _ _ _ _ _
      | exact ih7 _ _ _ _ _ _
      | exact ih8 _ _ _ _ _ _ _
      | exact ih9 _ _ _ _ _ _ _
      | exact ih10 _ _ _ _ _
      | exact ih11 _ _ _ _ _ _
      | exact casketref4_exact.mono _ _ _ _
      | exact casketref4_hex.mono _ _
      | exact LeO.none _
      | refine LeO.ite ?_ ?_
      | refine LeO.bind ?_ (fun _ => ?_)
    · intro y0 y1 y2 y3 y4
      unfold casketref4_ParseFloat.l1
      repeat' first
      | (with_reducible exact ih0 _ _ _)
      | (with_reducible exact ih1 _ _)
      | (with_reducible exact ih2 _ _ _)
      | (with_reducible exact ih3 _ _ _ _ _ _)
      | (with_reducible exact ih4 _ _ _ _ _ _ _)
      | (with_reducible exact ih5 _ _ _ _ _ _)
      | (with_reducible exact ih6 _ _ _ _ _)
      | (with_reducible exact ih7 _ _ _ _ _ _)
      | (with_reducible exact ih8 _ _ _ _ _ _ _)
      | (with_reducible exact ih9 _ _ _ _ _ _ _)
      | (with_reducible exact ih10 _ _ _ _ _)
      | (with_reducible exact ih11 _ _ _ _ _ _)
      | (with_reducible exact casketref4_exact.mono _ _ _ _)
      | (with_reducible exact casketref4_hex.mono _ _)
      | (with_reducible exact LeO.refl _)
      | (with_reducible exact LeO.none _)
      | (with_reducible refine LeO.ite ?_ ?_)
      | (with_reducible refine LeO.bind ?_ (fun _ => ?_))
      | exact ih0 _ _ _
      | exact ih1 _ _
      | exact ih2 _ _ _
      | exact ih3 _ _ _ _ _ _
      | exact ih4 _ _ _ _ _ _ _
      | exact ih5 _ _ _ _ _ _
      | exact ih6 _ _ _ _ _
      | exact ih7 _ _ _ _ _ _
      | exact ih8 _ _ _ _ _ _ _
      | exact ih9 _ _ _ _ _ _ _
      | exact ih10 _ _ _ _ _
      | exact ih11 _ _ _ _ _ _
      | exact casketref4_exact.mono _ _ _ _
      | exact casketref4_hex.mono _ _
      | exact LeO.none _
      | refine LeO.ite ?_ ?_
      | refine LeO.bind ?_ (fun _ => ?_)
    · intro y0 y1 y2 y3 y4 y5
      unfold casketref4_ParseFloat.j7
      repeat' first
      | (with_reducible exact ih0 _ _ _)
      | (with_reducible exact ih1 _ _)
      | (with_reducible exact ih2 _ _ _)
      | (with_reducible exact ih3 _ _ _ _ _ _)
      | (with_reducible exact ih4 _ _ _ _ _ _ _)
      | (with_reducible exact ih5 _ _ _ _ _ _)
      | (with_reducible exact ih6 _ _ _ _ _)
      | (with_reducible exact ih7 _ _ _ _ _ _)
      | (with_reducible exact ih8 _ _ _ _ _ _ _)
      | (with_reducible exact ih9 _ _ _ _ _ _ _)
      | (with_reducible exact ih10 _ _ _ _ _)
      | (with_reducible exact ih11 _ _ _ _ _ _)
      | (with_reducible exact casketref4_exact.mono _ _ _ _)
      | (with_reducible exact casketref4_hex.mono _ _)
      | (with_reducible exact LeO.refl _)
      | (with_reducible exact LeO.none _)
      | (with_reducible refine LeO.ite ?_ ?_)
      | (with_reducible refine LeO.bind ?_ (fun _ => ?_))
      | exact ih0 _ _ _
      | exact ih1 _ _
      | exact ih2 _ _ _
      | exact ih3 _ _ _ _ _ _
      | exact ih4 _ _ _ _ _ _ _
      | exact ih5 _ _ _ _ _ _
      | exact ih6 _ _ _ _ _
      | exact ih7 _ _ _ _ _ _
      | exact ih8 _ _ _ _ _ _ _
      | exact ih9 _ _ _ _ _ _ _
      | exact ih10 _ _ _ _ _
      | exact ih11 _ _ _ _ _ _
      | exact casketref4_exact.mono _ _ _ _
      | exact casketref4_hex.mono _ _
      | exact LeO.none _
      | refine LeO.ite ?_ ?_
      | refine LeO.bind ?_ (fun _ => ?_)
theorem casketref4_ParseFloat.mono : ∀ a0 k, LeO (casketref4_ParseFloat.f k a0) (casketref4_ParseFloat.f (k + 1) a0) := by
  intro a0 k
  obtain ⟨ih0, ih1, ih2, ih3, ih4, ih5, ih6, ih7, ih8, ih9, ih10, ih11⟩ := casketref4_ParseFloat.mono_l k
  unfold casketref4_ParseFloat.f
  repeat' first
      | (with_reducible exact ih0 _ _ _)
      | (with_reducible exact ih1 _ _)
      | (with_reducible exact ih2 _ _ _)
      | (with_reducible exact ih3 _ _ _ _ _ _)
      | (with_reducible exact ih4 _ _ _ _ _ _ _)
      | (with_reducible exact ih5 _ _ _ _ _ _)
      | (with_reducible exact ih6 _ _ _ _ _)
      | (with_reducible exact ih7 _ _ _ _ _ _)
      | (with_reducible exact ih8 _ _ _ _ _ _ _)
      | (with_reducible exact ih9 _ _ _ _ _ _ _)
      | (with_reducible exact ih10 _ _ _ _ _)
      | (with_reducible exact ih11 _ _ _ _ _ _)
      | (with_reducible exact casketref4_exact.mono _ _ _ _)
      | (with_reducible exact casketref4_hex.mono _ _)
      | (with_reducible exact LeO.refl _)
      | (with_reducible exact LeO.none _)
      | (with_reducible refine LeO.ite ?_ ?_)
      | (with_reducible refine LeO.bind ?_ (fun _ => ?_))
      | exact ih0 _ _ _
      | exact ih1 _ _
      | exact ih2 _ _ _
      | exact ih3 _ _ _ _ _ _
      | exact ih4 _ _ _ _ _ _ _
      | exact ih5 _ _ _ _ _ _
      | exact ih6 _ _ _ _ _
      | exact ih7 _ _ _ _ _ _
      | exact ih8 _ _ _ _ _ _ _
      | exact ih9 _ _ _ _ _ _ _
      | exact ih10 _ _ _ _ _
      | exact ih11 _ _ _ _ _ _
      | exact casketref4_exact.mono _ _ _ _
      | exact casketref4_hex.mono _ _
      | exact LeO.none _
      | refine LeO.ite ?_ ?_
      | refine LeO.bind ?_ (fun _ => ?_)
set_option maxHeartbeats 8000000 in
set_option maxRecDepth 100000 in
theorem casketref4_ParseFloat.calls (k : Nat) (a0 : ByteArray) (r1 : Int) (r2 : Int) (w : World) (h : casketref4_ParseFloat.f k a0 = some (r1, r2)) :
    Calls Tryd.prog 21 #[.string a0] w fun e w' => e = .returned (.tuple #[.int .u64 r1, .int .i64 r2]) ∧ Below w.heap.size w w' := by
  have HB := Aside0.mk (Below.refl w.heap.size w)
  have H : (if (a0.size : Int) > 64 then (some (0, 2)) else (if a0.toList = ([110, 97, 110] : List UInt8) then (some (9221120237041090560, 0)) else (if a0.toList = ([105, 110, 102] : List UInt8) then (some (9218868437227405312, 0)) else (if a0.toList = ([45, 105, 110, 102] : List UInt8) then (some (18442240474082181120, 0)) else (if a0.toList = ([] : List UInt8) then (casketref4_ParseFloat.j0 k a0 0 false) else (if 0 < (a0.size : Int) then (casketref4_ParseFloat.j0 k a0 0 ((bt a0 0) == 45)) else (none))))))) = some (r1, r2) := h
  clear h
  by_cases c2 : (a0.size : Int) > 64
  · rw [if_pos c2] at H
    have c2b0 : decide (64 < (a0.size : Int)) = true := decide_eq_true c2
    have c2b1 : decide (64 < a0.size) = true := decide_eq_true (by omega)
    clear c2
    simp only [Option.some.injEq, Prod.mk.injEq] at H
    obtain ⟨rfl, rfl⟩ := H
    go_enter Tryd.func21, Tryd.ntmps21
    go_wp2
    go_ret2
    exact ⟨by first | rfl | (simp [errW_none, errW_some] <;> rfl) | (simp [*, errW_none, errW_some] <;> rfl), by repeat (first | (with_reducible first | exact HB.out | apply below_alloc | apply pw_below_drewN | apply below_drew1) | exact HB.out)⟩
  · rw [if_neg c2] at H
    have c2b0 : decide (64 < (a0.size : Int)) = false := decide_eq_false c2
    have c2b1 : decide (64 < a0.size) = false := decide_eq_false (by omega)
    clear c2
    by_cases c3 : a0.toList = ([110, 97, 110] : List UInt8)
    · rw [if_pos c3] at H
      have c3b0 : (a0.toList == ([110, 97, 110] : List UInt8)) = true := beq_iff_eq.mpr c3
      have c3b1 : (a0.toList != ([110, 97, 110] : List UInt8)) = false := bne_eq_false_iff_eq.mpr c3
      clear c3
      simp only [Option.some.injEq, Prod.mk.injEq] at H
      obtain ⟨rfl, rfl⟩ := H
      go_enter Tryd.func21, Tryd.ntmps21
      go_wp2
      go_ret2
      exact ⟨by first | rfl | (simp [errW_none, errW_some] <;> rfl) | (simp [*, errW_none, errW_some] <;> rfl), by repeat (first | (with_reducible first | exact HB.out | apply below_alloc | apply pw_below_drewN | apply below_drew1) | exact HB.out)⟩
    · rw [if_neg c3] at H
      have c3b0 : (a0.toList == ([110, 97, 110] : List UInt8)) = false := beq_eq_false_iff_ne.mpr c3
      have c3b1 : (a0.toList != ([110, 97, 110] : List UInt8)) = true := bne_iff_ne.mpr c3
      by_cases c4 : a0.toList = ([105, 110, 102] : List UInt8)
      · rw [if_pos c4] at H
        have c4b0 : (a0.toList == ([105, 110, 102] : List UInt8)) = true := beq_iff_eq.mpr c4
        have c4b1 : (a0.toList != ([105, 110, 102] : List UInt8)) = false := bne_eq_false_iff_eq.mpr c4
        clear c4
        simp only [Option.some.injEq, Prod.mk.injEq] at H
        obtain ⟨rfl, rfl⟩ := H
        go_enter Tryd.func21, Tryd.ntmps21
        go_wp2
        go_ret2
        exact ⟨by first | rfl | (simp [errW_none, errW_some] <;> rfl) | (simp [*, errW_none, errW_some] <;> rfl), by repeat (first | (with_reducible first | exact HB.out | apply below_alloc | apply pw_below_drewN | apply below_drew1) | exact HB.out)⟩
      · rw [if_neg c4] at H
        have c4b0 : (a0.toList == ([105, 110, 102] : List UInt8)) = false := beq_eq_false_iff_ne.mpr c4
        have c4b1 : (a0.toList != ([105, 110, 102] : List UInt8)) = true := bne_iff_ne.mpr c4
        by_cases c5 : a0.toList = ([45, 105, 110, 102] : List UInt8)
        · rw [if_pos c5] at H
          have c5b0 : (a0.toList == ([45, 105, 110, 102] : List UInt8)) = true := beq_iff_eq.mpr c5
          have c5b1 : (a0.toList != ([45, 105, 110, 102] : List UInt8)) = false := bne_eq_false_iff_eq.mpr c5
          clear c5
          simp only [Option.some.injEq, Prod.mk.injEq] at H
          obtain ⟨rfl, rfl⟩ := H
          go_enter Tryd.func21, Tryd.ntmps21
          go_wp2
          go_ret2
          exact ⟨by first | rfl | (simp [errW_none, errW_some] <;> rfl) | (simp [*, errW_none, errW_some] <;> rfl), by repeat (first | (with_reducible first | exact HB.out | apply below_alloc | apply pw_below_drewN | apply below_drew1) | exact HB.out)⟩
        · rw [if_neg c5] at H
          have c5b0 : (a0.toList == ([45, 105, 110, 102] : List UInt8)) = false := beq_eq_false_iff_ne.mpr c5
          have c5b1 : (a0.toList != ([45, 105, 110, 102] : List UInt8)) = true := bne_iff_ne.mpr c5
          have HC6 := Aside0.mk H
          clear H
          go_enter Tryd.func21, Tryd.ntmps21
          go_upto_region 11 with (fail)
          go_cut [27] (fun v27 wc => ∃ (kq : Nat) (x27_5 : Bool), v27 = .bool x27_5 ∧ Aside0 (casketref4_ParseFloat.j0 kq a0 0 x27_5 = some (r1, r2)) ∧ Aside0 (kq ≤ k) ∧ Aside0 (Below w.heap.size w wc))
          case first => as_aux_lemma =>
            have H := HC6.out
            clear HC6
            by_cases c7 : a0.toList = ([] : List UInt8)
            · rw [if_pos c7] at H
              have c7b0 : (a0.toList == ([] : List UInt8)) = true := beq_iff_eq.mpr c7
              have c7b1 : (a0.toList != ([] : List UInt8)) = false := bne_eq_false_iff_eq.mpr c7
              clear c7
              (first | rw [c7b0] | (simp only [i64_w, i32_w]; rw [c7b0]) | skip)
              have H' := Aside0.mk H
              clear H
              go_wp2
              go_meet
              case rel => exact ⟨_, (false), (by first | rfl | (simp; done) | (simp [*]; done)), H', ⟨by first | omega | exact Nat.le_refl _⟩, ⟨by repeat (first | (with_reducible first | exact HB.out | apply below_alloc | apply pw_below_drewN | apply below_drew1) | exact HB.out)⟩⟩
            · rw [if_neg c7] at H
              have c7b0 : (a0.toList == ([] : List UInt8)) = false := beq_eq_false_iff_ne.mpr c7
              have c7b1 : (a0.toList != ([] : List UInt8)) = true := bne_iff_ne.mpr c7
              (first | rw [c7b0] | (simp only [i64_w, i32_w]; rw [c7b0]) | skip)
              by_cases c8 : 0 < (a0.size : Int)
              · rw [if_pos c8] at H
                have c8b0 : decide (0 < (a0.size : Int)) = true := decide_eq_true c8
                have c8b1 : decide (0 < a0.size) = true := decide_eq_true (by omega)
                clear c8
                have H' := Aside0.mk H
                clear H
                have p9 : 0 ≤ (0 : Int) := (by omega)
                have q9 : 0 < a0.size := (by have : (0 : Int) < (a0.size : Int) := of_decide_eq_true (by first | (with_reducible assumption) | assumption); omega)
                have hx9 : ∀ h : 0 < a0.size, ((a0[0]'h).toNat : Int) = bt a0 0 := bt_at a0 0
                clear p9
                have qi9 : (0 < (a0.size : Int)) = True := eq_true (of_decide_eq_true (by first | (with_reducible assumption) | assumption))
                replace q9 := eq_true q9
                go_wp2
                go_meet
                case rel => exact ⟨_, (((bt a0 0) == 45)), (by first | rfl | (simp; done) | (simp [*]; done)), H', ⟨by first | omega | exact Nat.le_refl _⟩, ⟨by repeat (first | (with_reducible first | exact HB.out | apply below_alloc | apply pw_below_drewN | apply below_drew1) | exact HB.out)⟩⟩
              · rw [if_neg c8] at H
                exact absurd H (by simp)
          case rest => as_aux_lemma =>
            clear HC6
            try clear c2
            try clear c2b0
            try clear c2b1
            try clear p2
            try clear c3
            try clear c3b0
            try clear c3b1
            try clear c4
            try clear c4b0
            try clear c4b1
            try clear c5
            try clear c5b0
            try clear c5b1
            try clear c7
            try clear c7b0
            try clear c7b1
            try clear c8
            try clear c8b0
            try clear c8b1
            try clear p9
            try clear q9
            try clear hx9
            try clear qi9
            try clear p9
            try clear q9
            obtain ⟨kq, x27_5, rfl, HA, HJ5, HB⟩ := hcut
            cases kq with
            | zero => exact absurd HA.out (by simp [casketref4_ParseFloat.j0])
            | succ kj5 =>
              have H := HA.out
              clear HA
              simp only [casketref4_ParseFloat.j0] at H
              have HC10 := Aside0.mk H
              clear H
              go_upto_if 27 with (fail)
              go_cut [0, 4] (fun v0 v4 wc => ∃ (kq : Nat) (x0_9 : ByteArray) (x4_9 : Int), v0 = .string x0_9 ∧ v4 = .int .u64 x4_9 ∧ Aside0 (casketref4_ParseFloat.j1 kq x0_9 x4_9 = some (r1, r2)) ∧ Aside0 (kq ≤ kj5) ∧ Aside0 (Below w.heap.size w wc))
              case first => as_aux_lemma =>
                have H := HC10.out
                clear HC10
                by_cases c11 : x27_5 = true
                · subst c11
                  have H1 : (if 1 ≤ (a0.size : Int) then (casketref4_ParseFloat.j1 kj5 (a0.extract 1 a0.size) 9223372036854775808) else (none)) = some (r1, r2) := by rw [if_pos rfl] at H; exact H
                  clear H
                  have H := H1
                  clear H1
                  by_cases c12 : 1 ≤ (a0.size : Int)
                  · rw [if_pos c12] at H
                    have c12b0 := eq_true c12
                    have c12b1 : decide (1 ≤ (a0.size : Int)) = true := decide_eq_true c12
                    clear c12
                    have H' := Aside0.mk H
                    clear H
                    go_wp2
                    go_meet
                    case rel => exact ⟨_, (a0.extract 1 a0.size), (9223372036854775808), (by first | rfl | (simp; done) | (simp [*]; done)), (by first | rfl | (simp; done) | (simp [*]; done)), H', ⟨by have := HJ5.out; first | omega | exact Nat.le_refl _⟩, ⟨by repeat (first | (with_reducible first | exact HB.out | apply below_alloc | apply pw_below_drewN | apply below_drew1) | exact HB.out)⟩⟩
                  · rw [if_neg c12] at H
                    exact absurd H (by simp)
                · replace c11 := Bool.eq_false_iff.mpr c11
                  subst c11
                  have H1 : (casketref4_ParseFloat.j1 kj5 a0 0) = some (r1, r2) := by rw [if_neg (show ¬ (false = true) by decide)] at H; exact H
                  clear H
                  have H := H1
                  clear H1
                  have H' := Aside0.mk H
                  clear H
                  go_wp2
                  go_meet
                  case rel => exact ⟨_, (a0), (0), (by first | rfl | (simp; done) | (simp [*]; done)), (by first | rfl | (simp; done) | (simp [*]; done)), H', ⟨by have := HJ5.out; first | omega | exact Nat.le_refl _⟩, ⟨by repeat (first | (with_reducible first | exact HB.out | apply below_alloc | apply pw_below_drewN | apply below_drew1) | exact HB.out)⟩⟩
              case rest => as_aux_lemma =>
                clear HC10
                try clear c1
                try clear c2
                try clear c2b0
                try clear c2b1
                try clear p2
                try clear c3
                try clear c3b0
                try clear c3b1
                try clear c4
                try clear c4b0
                try clear c4b1
                try clear c5
                try clear c5b0
                try clear c5b1
                try clear c7
                try clear c7b0
                try clear c7b1
                try clear c8
                try clear c8b0
                try clear c8b1
                try clear p9
                try clear q9
                try clear hx9
                try clear qi9
                try clear c11
                try clear c12
                try clear c12b0
                try clear c12b1
                try clear p2
                try clear p9
                try clear q9
                obtain ⟨kq, x0_9, x4_9, rfl, rfl, HA, HJ9, HB⟩ := hcut
                cases kq with
                | zero => exact absurd HA.out (by simp [casketref4_ParseFloat.j1])
                | succ kj9 =>
                  have H := HA.out
                  clear HA
                  simp only [casketref4_ParseFloat.j1] at H
                  have HC13 := Aside0.mk H
                  clear H
                  go_upto_region 14 with (fail)
                  go_cut [42] (fun v42 wc => ∃ (kq : Nat) (x42_12 : Bool), v42 = .bool x42_12 ∧ Aside0 (casketref4_ParseFloat.j2 kq x0_9 x4_9 x42_12 = some (r1, r2)) ∧ Aside0 (kq ≤ kj9) ∧ Aside0 (Below w.heap.size w wc))
                  case first => as_aux_lemma =>
                    have H := HC13.out
                    clear HC13
                    by_cases c14 : (x0_9.size : Int) < 2
                    · rw [if_pos c14] at H
                      have c14b0 : decide ((x0_9.size : Int) < 2) = true := decide_eq_true c14
                      have c14b1 : decide (x0_9.size < 2) = true := decide_eq_true (by omega)
                      clear c14
                      (first | rw [c14b0] | (simp only [i64_w, i32_w]; rw [c14b0]) | skip)
                      have H' := Aside0.mk H
                      clear H
                      go_wp2
                      go_meet
                      case rel => exact ⟨_, (true), (by first | rfl | (simp; done) | (simp [*]; done)), H', ⟨by have := HJ5.out; have := HJ9.out; first | omega | exact Nat.le_refl _⟩, ⟨by repeat (first | (with_reducible first | exact HB.out | apply below_alloc | apply pw_below_drewN | apply below_drew1) | exact HB.out)⟩⟩
                    · rw [if_neg c14] at H
                      have c14b0 : decide ((x0_9.size : Int) < 2) = false := decide_eq_false c14
                      have c14b1 : decide (x0_9.size < 2) = false := decide_eq_false (by omega)
                      clear c14
                      (first | rw [c14b0] | (simp only [i64_w, i32_w]; rw [c14b0]) | skip)
                      by_cases c15 : 0 < (x0_9.size : Int)
                      · rw [if_pos c15] at H
                        have c15b0 : decide (0 < (x0_9.size : Int)) = true := decide_eq_true c15
                        have c15b1 : decide (0 < x0_9.size) = true := decide_eq_true (by omega)
                        clear c15
                        by_cases c17 : (bt x0_9 0) = 48
                        · rw [if_pos c17] at H
                          have c17b0 : ((bt x0_9 0) == 48) = true := beq_iff_eq.mpr c17
                          have c17b1 : ((bt x0_9 0) != 48) = false := bne_eq_false_iff_eq.mpr c17
                          clear c17
                          by_cases c18 : 1 < (x0_9.size : Int)
                          · rw [if_pos c18] at H
                            have c18b0 : decide (1 < (x0_9.size : Int)) = true := decide_eq_true c18
                            have c18b1 : decide (1 < x0_9.size) = true := decide_eq_true (by omega)
                            clear c18
                            have H' := Aside0.mk H
                            clear H
                            have p16 : 0 ≤ (0 : Int) := (by omega)
                            have q16 : 0 < x0_9.size := (by have : (0 : Int) < (x0_9.size : Int) := of_decide_eq_true (by first | (with_reducible assumption) | assumption); omega)
                            have hx16 : ∀ h : 0 < x0_9.size, ((x0_9[0]'h).toNat : Int) = bt x0_9 0 := bt_at x0_9 0
                            clear p16
                            have qi16 : (0 < (x0_9.size : Int)) = True := eq_true (of_decide_eq_true (by first | (with_reducible assumption) | assumption))
                            replace q16 := eq_true q16
                            have p19 : 0 ≤ (1 : Int) := (by omega)
                            have q19 : 1 < x0_9.size := (by have : (1 : Int) < (x0_9.size : Int) := of_decide_eq_true (by first | (with_reducible assumption) | assumption); omega)
                            have hx19 : ∀ h : 1 < x0_9.size, ((x0_9[1]'h).toNat : Int) = bt x0_9 1 := bt_at x0_9 1
                            clear p19
                            have qi19 : (1 < (x0_9.size : Int)) = True := eq_true (of_decide_eq_true (by first | (with_reducible assumption) | assumption))
                            replace q19 := eq_true q19
                            go_wp2
                            go_meet
                            case rel => exact ⟨_, (((bt x0_9 1) != 120)), (by first | rfl | (simp; done) | (simp [*]; done)), H', ⟨by have := HJ5.out; have := HJ9.out; first | omega | exact Nat.le_refl _⟩, ⟨by repeat (first | (with_reducible first | exact HB.out | apply below_alloc | apply pw_below_drewN | apply below_drew1) | exact HB.out)⟩⟩
                          · rw [if_neg c18] at H
                            exact absurd H (by simp)
                        · rw [if_neg c17] at H
                          have c17b0 : ((bt x0_9 0) == 48) = false := beq_eq_false_iff_ne.mpr c17
                          have c17b1 : ((bt x0_9 0) != 48) = true := bne_iff_ne.mpr c17
                          have H' := Aside0.mk H
                          clear H
                          have p16 : 0 ≤ (0 : Int) := (by omega)
                          have q16 : 0 < x0_9.size := (by have : (0 : Int) < (x0_9.size : Int) := of_decide_eq_true (by first | (with_reducible assumption) | assumption); omega)
                          have hx16 : ∀ h : 0 < x0_9.size, ((x0_9[0]'h).toNat : Int) = bt x0_9 0 := bt_at x0_9 0
                          clear p16
                          have qi16 : (0 < (x0_9.size : Int)) = True := eq_true (of_decide_eq_true (by first | (with_reducible assumption) | assumption))
                          replace q16 := eq_true q16
                          go_wp2
                          go_meet
                          case rel => exact ⟨_, (true), (by first | rfl | (simp; done) | (simp [*]; done)), H', ⟨by have := HJ5.out; have := HJ9.out; first | omega | exact Nat.le_refl _⟩, ⟨by repeat (first | (with_reducible first | exact HB.out | apply below_alloc | apply pw_below_drewN | apply below_drew1) | exact HB.out)⟩⟩
                      · rw [if_neg c15] at H
                        exact absurd H (by simp)
                  case rest => as_aux_lemma =>
                    clear HC13
                    try clear c1
                    try clear p1
                    try clear q1
                    try clear hx1
                    try clear qi1
                    try clear c2
                    try clear c2b0
                    try clear c2b1
                    try clear p2
                    try clear c3
                    try clear c3b0
                    try clear c3b1
                    try clear c4
                    try clear c4b0
                    try clear c4b1
                    try clear c5
                    try clear c5b0
                    try clear c5b1
                    try clear c7
                    try clear c7b0
                    try clear c7b1
                    try clear c8
                    try clear c8b0
                    try clear c8b1
                    try clear p9
                    try clear q9
                    try clear hx9
                    try clear qi9
                    try clear c11
                    try clear c12
                    try clear c12b0
                    try clear c12b1
                    try clear c14
                    try clear c14b0
                    try clear c14b1
                    try clear c15
                    try clear c15b0
                    try clear c15b1
                    try clear p16
                    try clear q16
                    try clear hx16
                    try clear qi16
                    try clear c17
                    try clear c17b0
                    try clear c17b1
                    try clear c18
                    try clear c18b0
                    try clear c18b1
                    try clear p19
                    try clear q19
                    try clear hx19
                    try clear qi19
                    try clear p16
                    try clear p19
                    try clear p2
                    try clear p9
                    try clear q16
                    try clear q19
                    try clear q9
                    obtain ⟨kq, x42_12, rfl, HA, HJ12, HB⟩ := hcut
                    cases kq with
                    | zero => exact absurd HA.out (by simp [casketref4_ParseFloat.j2])
                    | succ kj12 =>
                      have H := HA.out
                      clear HA
                      simp only [casketref4_ParseFloat.j2] at H
                      by_cases c20 : x42_12 = true
                      · subst c20
                        have H1 : (some (0, 20)) = some (r1, r2) := by rw [if_pos rfl] at H; exact H
                        clear H
                        have H := H1
                        clear H1
                        simp only [Option.some.injEq, Prod.mk.injEq] at H
                        obtain ⟨rfl, rfl⟩ := H
                        go_wp2
                        go_ret2
                        exact ⟨by first | rfl | (simp [errW_none, errW_some] <;> rfl) | (simp [*, errW_none, errW_some] <;> rfl), by repeat (first | (with_reducible first | exact HB.out | apply below_alloc | apply pw_below_drewN | apply below_drew1) | exact HB.out)⟩
                      · replace c20 := Bool.eq_false_iff.mpr c20
                        subst c20
                        have H1 : (casketref4_ParseFloat.l0 kj12 x0_9 x4_9 2 ([] : List Int) 0 0) = some (r1, r2) := by rw [if_neg (show ¬ (false = true) by decide)] at H; exact H
                        clear H
                        have H := H1
                        clear H1
                        have H' := Aside0.mk H
                        clear H
                        go_wp2
                        go_loopg [5, 6, 7] kj12 (fun kq v5 v6 v7 w' => ∃ (x5_4 : Int) (x6_4 : List Int) (x7_4 : Int), v5 = .int .i64 x5_4 ∧ v7 = .int .i64 x7_4 ∧ Aside0 (casketref4_ParseFloat.l0 kq x0_9 x4_9 x5_4 x6_4 x7_4 0 = some (r1, r2)) ∧ Aside0 (kq ≤ kj12) ∧ Aside0 (Kd.R (Kd.int .i64) 3 w' w.heap.size (fun _ => True) v6 x6_4) ∧ Aside0 (Below w.heap.size w w'))
                        case atStart => exact ⟨(2), (([] : List Int)), (0), (by first | rfl | (simp; done) | (simp [*]; done)), (by first | rfl | (simp; done) | (simp [*]; done)), H', ⟨Nat.le_refl _⟩, ⟨by first | exact Kd.R_nil _ _ _ _ _ | exact Kd.N_nil _ _ _ _ _ | exact Kd.V_nil _ _ _ _ _ | exact Kd.Q_nil _ _ _ _ _ | exact Kd.S_nil _ _ _ _ _⟩, ⟨by repeat (first | (with_reducible first | exact HB.out | apply below_alloc | apply pw_below_drewN | apply below_drew1) | exact HB.out)⟩⟩
                        case round => as_aux_lemma =>
                          clear H'
                          try clear c1
                          try clear p1
                          try clear q1
                          try clear hx1
                          try clear qi1
                          try clear c2
                          try clear c2b0
                          try clear c2b1
                          try clear p2
                          try clear c3
                          try clear c3b0
                          try clear c3b1
                          try clear c4
                          try clear c4b0
                          try clear c4b1
                          try clear c5
                          try clear c5b0
                          try clear c5b1
                          try clear c7
                          try clear c7b0
                          try clear c7b1
                          try clear c8
                          try clear c8b0
                          try clear c8b1
                          try clear p9
                          try clear q9
                          try clear hx9
                          try clear qi9
                          try clear c11
                          try clear c12
                          try clear c12b0
                          try clear c12b1
                          try clear c14
                          try clear c14b0
                          try clear c14b1
                          try clear c15
                          try clear c15b0
                          try clear c15b1
                          try clear p16
                          try clear q16
                          try clear hx16
                          try clear qi16
                          try clear c17
                          try clear c17b0
                          try clear c17b1
                          try clear c18
                          try clear c18b0
                          try clear c18b1
                          try clear p19
                          try clear q19
                          try clear hx19
                          try clear qi19
                          try clear c20
                          try clear p1
                          try clear p16
                          try clear p19
                          try clear p2
                          try clear p9
                          try clear q1
                          try clear q16
                          try clear q19
                          try clear q9
                          obtain ⟨x5_4, x6_4, x7_4, rfl, rfl, HA, HK4, HO_6, HB⟩ := hrel
                          cases gk with
                          | zero => exact absurd HA.out (by simp [casketref4_ParseFloat.l0])
                          | succ k4 =>
                            have H := HA.out
                            clear HA
                            simp only [casketref4_ParseFloat.l0] at H
                            have HC21 := Aside0.mk H
                            clear H
                            go_upto_region 19 with (fail)
                            go_cut [53] (fun v53 wc => ∃ (kq : Nat) (x53_20 : Bool), v53 = .bool x53_20 ∧ Aside0 (casketref4_ParseFloat.j4 kq x0_9 x4_9 x5_4 x6_4 x7_4 0 x53_20 = some (r1, r2)) ∧ Aside0 (kq ≤ k4) ∧ Aside0 (Kd.R (Kd.int .i64) 3 wc w.heap.size (fun _ => True) u6 x6_4) ∧ Aside0 (Below w.heap.size w wc))
                            case first => as_aux_lemma =>
                              have H := HC21.out
                              clear HC21
                              by_cases c22 : x5_4 < (x0_9.size : Int)
                              · rw [if_pos c22] at H
                                have c22b0 : decide (x5_4 < (x0_9.size : Int)) = true := decide_eq_true c22
                                clear c22
                                (first | rw [c22b0] | (simp only [i64_w, i32_w]; rw [c22b0]) | skip)
                                by_cases c23 : 0 ≤ x5_4
                                · rw [if_pos c23] at H
                                  have c23b0 : decide (0 ≤ x5_4) = true := decide_eq_true c23
                                  clear c23
                                  replace H := Option.bind_eq_some_iff.mp H
                                  obtain ⟨t231, A250, H⟩ := H
                                  replace H : (casketref4_ParseFloat.j4 k4 x0_9 x4_9 x5_4 x6_4 x7_4 0 (decide (t231 ≥ 0))) = some (r1, r2) := H
                                  have A25 := Aside0.mk A250
                                  clear A250
                                  have H' := Aside0.mk H
                                  clear H
                                  have p24 : 0 ≤ (x5_4 : Int) := of_decide_eq_true (by first | (with_reducible assumption) | assumption)
                                  have q24 : x5_4 < (x0_9.size : Int) := of_decide_eq_true (by first | (with_reducible assumption) | assumption)
                                  have hx24 := bt_at x0_9 x5_4
                                  replace p24 := eq_true p24
                                  replace q24 := eq_true q24
                                  go_wp2_with (first | (go_at_call 36; (with_reducible refine (casketref4_hex.calls k4 (bt x0_9 x5_4) t231 _ A25.out).mono ?_); rintro e w' ⟨rfl, ⟨nd, rfl⟩⟩))
                                  go_meet
                                  case rel => exact ⟨_, (decide (t231 ≥ 0)), (by first | rfl | (simp; done) | (simp [*]; done)), H', ⟨by have := HJ5.out; have := HJ9.out; have := HJ12.out; have := HK4.out; first | omega | exact Nat.le_refl _⟩, ⟨by (with_reducible repeat (first | apply Kd.R_alloc | apply Kd.R_drewN | apply Kd.R_drew)); exact HO_6.out⟩, ⟨by repeat (first | (with_reducible first | exact HB.out | apply below_alloc | apply pw_below_drewN | apply below_drew1) | exact HB.out)⟩⟩
                                · rw [if_neg c23] at H
                                  exact absurd H (by simp)
                              · rw [if_neg c22] at H
                                have c22b0 : decide (x5_4 < (x0_9.size : Int)) = false := decide_eq_false c22
                                clear c22
                                (first | rw [c22b0] | (simp only [i64_w, i32_w]; rw [c22b0]) | skip)
                                have H' := Aside0.mk H
                                clear H
                                go_wp2
                                go_meet
                                case rel => exact ⟨_, (false), (by first | rfl | (simp; done) | (simp [*]; done)), H', ⟨by have := HJ5.out; have := HJ9.out; have := HJ12.out; have := HK4.out; first | omega | exact Nat.le_refl _⟩, ⟨by (with_reducible repeat (first | apply Kd.R_alloc | apply Kd.R_drewN | apply Kd.R_drew)); exact HO_6.out⟩, ⟨by repeat (first | (with_reducible first | exact HB.out | apply below_alloc | apply pw_below_drewN | apply below_drew1) | exact HB.out)⟩⟩
                            case rest => as_aux_lemma =>
                              clear HC21
                              try clear c1
                              try clear p1
                              try clear q1
                              try clear hx1
                              try clear qi1
                              try clear c2
                              try clear c2b0
                              try clear c2b1
                              try clear p2
                              try clear q2
                              try clear hx2
                              try clear c3
                              try clear c3b0
                              try clear c3b1
                              try clear c4
                              try clear c4b0
                              try clear c4b1
                              try clear c5
                              try clear c5b0
                              try clear c5b1
                              try clear c7
                              try clear c7b0
                              try clear c7b1
                              try clear c8
                              try clear c8b0
                              try clear c8b1
                              try clear p9
                              try clear q9
                              try clear hx9
                              try clear qi9
                              try clear c11
                              try clear c12
                              try clear c12b0
                              try clear c12b1
                              try clear c14
                              try clear c14b0
                              try clear c14b1
                              try clear c15
                              try clear c15b0
                              try clear c15b1
                              try clear p16
                              try clear q16
                              try clear hx16
                              try clear qi16
                              try clear c17
                              try clear c17b0
                              try clear c17b1
                              try clear c18
                              try clear c18b0
                              try clear c18b1
                              try clear p19
                              try clear q19
                              try clear hx19
                              try clear qi19
                              try clear c20
                              try clear c21
                              try clear c22
                              try clear c22b0
                              try clear c23
                              try clear c23b0
                              try clear p24
                              try clear q24
                              try clear hx24
                              try clear p1
                              try clear p16
                              try clear p19
                              try clear p2
                              try clear p24
                              try clear p9
                              try clear q1
                              try clear q16
                              try clear q19
                              try clear q24
                              try clear q9
                              obtain ⟨kq, x53_20, rfl, HA, HJ20, HO_6, HB⟩ := hcut
                              cases kq with
                              | zero => exact absurd HA.out (by simp [casketref4_ParseFloat.j4])
                              | succ kj20 =>
                                have H := HA.out
                                clear HA
                                simp only [casketref4_ParseFloat.j4] at H
                                by_cases c26 : x53_20 = true
                                · subst c26
                                  have H1 : (if 0 ≤ x5_4 then (if x5_4 < (x0_9.size : Int) then ((casketref4_hex.f kj20 (bt x0_9 x5_4)).bind fun t232 => ((casketref4_nibble.f x6_4 t232).bind fun t233 => (casketref4_ParseFloat.l0 kj20 x0_9 x4_9 (wrap64 (x5_4 + 1)) t233 (wrap64 (x7_4 + 1)) 0))) else (none)) else (none)) = some (r1, r2) := by rw [if_pos rfl] at H; exact H
                                  clear H
                                  have H := H1
                                  clear H1
                                  by_cases c27 : 0 ≤ x5_4
                                  · rw [if_pos c27] at H
                                    have c27b0 : decide (0 ≤ x5_4) = true := decide_eq_true c27
                                    clear c27
                                    by_cases c28 : x5_4 < (x0_9.size : Int)
                                    · rw [if_pos c28] at H
                                      have c28b0 : decide (x5_4 < (x0_9.size : Int)) = true := decide_eq_true c28
                                      clear c28
                                      replace H := Option.bind_eq_some_iff.mp H
                                      obtain ⟨t232, A300, H⟩ := H
                                      replace H : ((casketref4_nibble.f x6_4 t232).bind fun t233 => (casketref4_ParseFloat.l0 kj20 x0_9 x4_9 (wrap64 (x5_4 + 1)) t233 (wrap64 (x7_4 + 1)) 0)) = some (r1, r2) := H
                                      have A30 := Aside0.mk A300
                                      clear A300
                                      replace H := Option.bind_eq_some_iff.mp H
                                      obtain ⟨t233, A310, H⟩ := H
                                      replace H : (casketref4_ParseFloat.l0 kj20 x0_9 x4_9 (wrap64 (x5_4 + 1)) t233 (wrap64 (x7_4 + 1)) 0) = some (r1, r2) := H
                                      have A31 := Aside0.mk A310
                                      clear A310
                                      have H' := Aside0.mk H
                                      clear H
                                      have p29 : 0 ≤ (x5_4 : Int) := of_decide_eq_true (by first | (with_reducible assumption) | assumption)
                                      have q29 : x5_4 < (x0_9.size : Int) := of_decide_eq_true (by first | (with_reducible assumption) | assumption)
                                      have hx29 := bt_at x0_9 x5_4
                                      replace p29 := eq_true p29
                                      replace q29 := eq_true q29
                                      go_wp2_with (first | ((with_reducible refine gate_callee (f := 36) rfl ?_); refine goesL_ (some 58) rfl rfl Tryd.func36 (by kernel_rfl) rfl #[.int .u8 (bt x0_9 x5_4)] rfl (by (try simp only [List.map_toArray, List.map_cons, List.map_nil]); first | done | rfl | (simp only [List.length_drop, List.length_take]; rfl)) ?_; (with_reducible refine (casketref4_hex.calls kj20 (bt x0_9 x5_4) t232 _ A30.out).mono ?_); rintro e w' ⟨rfl, ⟨nd, rfl⟩⟩; refine ⟨_, rfl, ?_⟩; obtain ⟨Ao32, co32, eo32⟩ := Kd.R_slice HO_6.out; subst eo32) | ((with_reducible refine gate_callee (f := 37) rfl ?_); refine goesL_ (some 59) rfl rfl Tryd.func37 (by kernel_rfl) rfl #[.slice Ao32 x6_4.length co32, .int .i64 t232] rfl (by (try simp only [List.map_toArray, List.map_cons, List.map_nil]); first | done | rfl | (simp only [List.length_drop, List.length_take]; rfl)) ?_; (with_reducible refine (casketref4_nibble.calls (fun k_ => some k_ = (.slice Ao32 x6_4.length co32 : Value).ownBlock) (.slice Ao32 x6_4.length co32) x6_4 t232 t233 w _ ?side1 ?side2 A31.out).mono ?_); (case side1 => repeat (first | (with_reducible first | exact HB.out | apply below_alloc | apply pw_below_drewN | apply below_drew1) | exact HB.out)); (case side2 => exact Kd.R_tight rfl HO_6.out); rintro e w33 ⟨v234, rfl, ho0, hb, hkp⟩; refine ⟨_, rfl, ?_⟩; have n0_ := Aside0.mk (Kd.R_mono (ok' := fun k_ => True) ho0 (fun k_ hk_ => trivial)); have n1_ := Aside0.mk (hb); clear HB; clear HO_6; have HO235 := n0_; have HB := n1_; clear n0_ n1_; (try clear hb); (try clear hkp); (try clear ho0)))
                                      go_roundg kj20
                                      case measure => have := HJ5.out; have := HJ9.out; have := HJ12.out; have := HK4.out; have := HJ20.out; omega
                                      case rel => exact ⟨(wrap64 (x5_4 + 1)), (t233), (wrap64 (x7_4 + 1)), (by first | rfl | (simp; done) | (simp [*]; done)), (by first | rfl | (simp; done) | (simp [*]; done)), H', ⟨by have := HJ5.out; have := HJ9.out; have := HJ12.out; have := HK4.out; have := HJ20.out; omega⟩, ⟨by (with_reducible repeat (first | apply Kd.R_alloc | apply Kd.R_drewN | apply Kd.R_drew)); exact HO235.out⟩, ⟨by repeat (first | (with_reducible first | exact HB.out | apply below_alloc | apply pw_below_drewN | apply below_drew1) | exact HB.out)⟩⟩
                                    · rw [if_neg c28] at H
                                      exact absurd H (by simp)
                                  · rw [if_neg c27] at H
                                    exact absurd H (by simp)
                                · replace c26 := Bool.eq_false_iff.mpr c26
                                  subst c26
                                  have H1 : (if x7_4 = 0 then (some (0, 20)) else (if x5_4 < (x0_9.size : Int) then (if 0 ≤ x5_4 then (casketref4_ParseFloat.j5 kj20 x0_9 x4_9 x5_4 x6_4 0 ((bt x0_9 x5_4) == 46)) else (none)) else (casketref4_ParseFloat.j5 kj20 x0_9 x4_9 x5_4 x6_4 0 false))) = some (r1, r2) := by rw [if_neg (show ¬ (false = true) by decide)] at H; exact H
                                  clear H
                                  have H := H1
                                  clear H1
                                  by_cases c34 : x7_4 = 0
                                  · rw [if_pos c34] at H
                                    have c34b0 : (x7_4 == 0) = true := beq_iff_eq.mpr c34
                                    have c34b1 : (x7_4 != 0) = false := bne_eq_false_iff_eq.mpr c34
                                    clear c34
                                    simp only [Option.some.injEq, Prod.mk.injEq] at H
                                    obtain ⟨rfl, rfl⟩ := H
                                    go_wp2
                                    go_ret2
                                    exact ⟨by first | rfl | (simp [errW_none, errW_some] <;> rfl) | (simp [*, errW_none, errW_some] <;> rfl), by repeat (first | (with_reducible first | exact HB.out | apply below_alloc | apply pw_below_drewN | apply below_drew1) | exact HB.out)⟩
                                  · rw [if_neg c34] at H
                                    have c34b0 : (x7_4 == 0) = false := beq_eq_false_iff_ne.mpr c34
                                    have c34b1 : (x7_4 != 0) = true := bne_iff_ne.mpr c34
                                    have HC35 := Aside0.mk H
                                    clear H
                                    go_upto_region 25 with (fail)
                                    go_cut [75] (fun v75 wc => ∃ (kq : Nat) (x75_34 : Bool), v75 = .bool x75_34 ∧ Aside0 (casketref4_ParseFloat.j5 kq x0_9 x4_9 x5_4 x6_4 0 x75_34 = some (r1, r2)) ∧ Aside0 (kq ≤ kj20) ∧ Aside0 (Kd.R (Kd.int .i64) 3 wc w.heap.size (fun _ => True) u6 x6_4) ∧ Aside0 (Below w.heap.size w wc))
                                    case first => as_aux_lemma =>
                                      have H := HC35.out
                                      clear HC35
                                      by_cases c36 : x5_4 < (x0_9.size : Int)
                                      · rw [if_pos c36] at H
                                        have c36b0 : decide (x5_4 < (x0_9.size : Int)) = true := decide_eq_true c36
                                        clear c36
                                        (first | rw [c36b0] | (simp only [i64_w, i32_w]; rw [c36b0]) | skip)
                                        by_cases c37 : 0 ≤ x5_4
                                        · rw [if_pos c37] at H
                                          have c37b0 : decide (0 ≤ x5_4) = true := decide_eq_true c37
                                          clear c37
                                          have H' := Aside0.mk H
                                          clear H
                                          have p38 : 0 ≤ (x5_4 : Int) := of_decide_eq_true (by first | (with_reducible assumption) | assumption)
                                          have q38 : x5_4 < (x0_9.size : Int) := of_decide_eq_true (by first | (with_reducible assumption) | assumption)
                                          have hx38 := bt_at x0_9 x5_4
                                          replace p38 := eq_true p38
                                          replace q38 := eq_true q38
                                          go_wp2
                                          go_meet
                                          case rel => exact ⟨_, (((bt x0_9 x5_4) == 46)), (by first | rfl | (simp; done) | (simp [*]; done)), H', ⟨by have := HJ5.out; have := HJ9.out; have := HJ12.out; have := HK4.out; have := HJ20.out; first | omega | exact Nat.le_refl _⟩, ⟨by (with_reducible repeat (first | apply Kd.R_alloc | apply Kd.R_drewN | apply Kd.R_drew)); exact HO_6.out⟩, ⟨by repeat (first | (with_reducible first | exact HB.out | apply below_alloc | apply pw_below_drewN | apply below_drew1) | exact HB.out)⟩⟩
                                        · rw [if_neg c37] at H
                                          exact absurd H (by simp)
                                      · rw [if_neg c36] at H
                                        have c36b0 : decide (x5_4 < (x0_9.size : Int)) = false := decide_eq_false c36
                                        clear c36
                                        (first | rw [c36b0] | (simp only [i64_w, i32_w]; rw [c36b0]) | skip)
                                        have H' := Aside0.mk H
                                        clear H
                                        go_wp2
                                        go_meet
                                        case rel => exact ⟨_, (false), (by first | rfl | (simp; done) | (simp [*]; done)), H', ⟨by have := HJ5.out; have := HJ9.out; have := HJ12.out; have := HK4.out; have := HJ20.out; first | omega | exact Nat.le_refl _⟩, ⟨by (with_reducible repeat (first | apply Kd.R_alloc | apply Kd.R_drewN | apply Kd.R_drew)); exact HO_6.out⟩, ⟨by repeat (first | (with_reducible first | exact HB.out | apply below_alloc | apply pw_below_drewN | apply below_drew1) | exact HB.out)⟩⟩
                                    case rest => as_aux_lemma =>
                                      clear HC35
                                      try clear c1
                                      try clear p1
                                      try clear q1
                                      try clear hx1
                                      try clear qi1
                                      try clear c2
                                      try clear c2b0
                                      try clear c2b1
                                      try clear p2
                                      try clear q2
                                      try clear hx2
                                      try clear c3
                                      try clear c3b0
                                      try clear c3b1
                                      try clear p3
                                      try clear q3
                                      try clear hx3
                                      try clear c4
                                      try clear c4b0
                                      try clear c4b1
                                      try clear c5
                                      try clear c5b0
                                      try clear c5b1
                                      try clear p6
                                      try clear c7
                                      try clear c7b0
                                      try clear c7b1
                                      try clear c8
                                      try clear c8b0
                                      try clear c8b1
                                      try clear p9
                                      try clear q9
                                      try clear hx9
                                      try clear qi9
                                      try clear c11
                                      try clear c12
                                      try clear c12b0
                                      try clear c12b1
                                      try clear c14
                                      try clear c14b0
                                      try clear c14b1
                                      try clear c15
                                      try clear c15b0
                                      try clear c15b1
                                      try clear p16
                                      try clear q16
                                      try clear hx16
                                      try clear qi16
                                      try clear c17
                                      try clear c17b0
                                      try clear c17b1
                                      try clear c18
                                      try clear c18b0
                                      try clear c18b1
                                      try clear p19
                                      try clear q19
                                      try clear hx19
                                      try clear qi19
                                      try clear c20
                                      try clear c21
                                      try clear c22
                                      try clear c22b0
                                      try clear c23
                                      try clear c23b0
                                      try clear p24
                                      try clear q24
                                      try clear hx24
                                      try clear c26
                                      try clear c27
                                      try clear c27b0
                                      try clear c28
                                      try clear c28b0
                                      try clear p29
                                      try clear q29
                                      try clear hx29
                                      try clear c34
                                      try clear c34b0
                                      try clear c34b1
                                      try clear c36
                                      try clear c36b0
                                      try clear c37
                                      try clear c37b0
                                      try clear p38
                                      try clear q38
                                      try clear hx38
                                      try clear p1
                                      try clear p16
                                      try clear p19
                                      try clear p2
                                      try clear p24
                                      try clear p29
                                      try clear p38
                                      try clear p9
                                      try clear q1
                                      try clear q16
                                      try clear q19
                                      try clear q2
                                      try clear q24
                                      try clear q29
                                      try clear q38
                                      try clear q9
                                      obtain ⟨kq, x75_34, rfl, HA, HJ34, HO_6, HB⟩ := hcut
                                      cases kq with
                                      | zero => exact absurd HA.out (by simp [casketref4_ParseFloat.j5])
                                      | succ kj34 =>
                                        have H := HA.out
                                        clear HA
                                        simp only [casketref4_ParseFloat.j5] at H
                                        have HC39 := Aside0.mk H
                                        clear H
                                        go_upto_if 75 with (fail)
                                        go_cut [5, 6, 8] (fun v5 v6 v8 wc => ∃ (kq : Nat) (x5_38 : Int) (x6_38 : List Int) (x8_38 : Int), v5 = .int .i64 x5_38 ∧ v8 = .int .i64 x8_38 ∧ Aside0 (casketref4_ParseFloat.j8 kq x0_9 x4_9 x5_38 x6_38 x8_38 = some (r1, r2)) ∧ Aside0 (kq ≤ kj34) ∧ Aside0 (Kd.R (Kd.int .i64) 3 wc w.heap.size (fun _ => True) v6 x6_38) ∧ Aside0 (Below w.heap.size w wc))
                                        case first => as_aux_lemma =>
                                          have H := HC39.out
                                          clear HC39
                                          by_cases c40 : x75_34 = true
                                          · subst c40
                                            have H1 : (casketref4_ParseFloat.l1 kj34 x0_9 x4_9 (wrap64 (x5_4 + 1)) x6_4 0) = some (r1, r2) := by rw [if_pos rfl] at H; exact H
                                            clear H
                                            have H := H1
                                            clear H1
                                            have H' := Aside0.mk H
                                            clear H
                                            go_wp2
                                            go_loopg [5, 6, 8] kj34 (fun kq v5 v6 v8 w' => ∃ (x5_7 : Int) (x6_7 : List Int) (x8_7 : Int), v5 = .int .i64 x5_7 ∧ v8 = .int .i64 x8_7 ∧ Aside0 (casketref4_ParseFloat.l1 kq x0_9 x4_9 x5_7 x6_7 x8_7 = some (r1, r2)) ∧ Aside0 (kq ≤ kj34) ∧ Aside0 (Kd.R (Kd.int .i64) 3 w' w.heap.size (fun _ => True) v6 x6_7) ∧ Aside0 (Below w.heap.size w w'))
                                            case atStart => exact ⟨(wrap64 (x5_4 + 1)), (x6_4), (0), (by first | rfl | (simp; done) | (simp [*]; done)), (by first | rfl | (simp; done) | (simp [*]; done)), H', ⟨Nat.le_refl _⟩, ⟨by (with_reducible repeat (first | apply Kd.R_alloc | apply Kd.R_drewN | apply Kd.R_drew)); exact HO_6.out⟩, ⟨by repeat (first | (with_reducible first | exact HB.out | apply below_alloc | apply pw_below_drewN | apply below_drew1) | exact HB.out)⟩⟩
                                            case round => as_aux_lemma =>
                                              clear H'
                                              try clear c1
                                              try clear p1
                                              try clear q1
                                              try clear hx1
                                              try clear qi1
                                              try clear c2
                                              try clear c2b0
                                              try clear c2b1
                                              try clear p2
                                              try clear q2
                                              try clear hx2
                                              try clear c3
                                              try clear c3b0
                                              try clear c3b1
                                              try clear p3
                                              try clear q3
                                              try clear hx3
                                              try clear c4
                                              try clear c4b0
                                              try clear c4b1
                                              try clear c5
                                              try clear c5b0
                                              try clear c5b1
                                              try clear p6
                                              try clear c7
                                              try clear c7b0
                                              try clear c7b1
                                              try clear c8
                                              try clear c8b0
                                              try clear c8b1
                                              try clear p9
                                              try clear q9
                                              try clear hx9
                                              try clear qi9
                                              try clear c11
                                              try clear c12
                                              try clear c12b0
                                              try clear c12b1
                                              try clear c14
                                              try clear c14b0
                                              try clear c14b1
                                              try clear c15
                                              try clear c15b0
                                              try clear c15b1
                                              try clear p16
                                              try clear q16
                                              try clear hx16
                                              try clear qi16
                                              try clear c17
                                              try clear c17b0
                                              try clear c17b1
                                              try clear c18
                                              try clear c18b0
                                              try clear c18b1
                                              try clear p19
                                              try clear q19
                                              try clear hx19
                                              try clear qi19
                                              try clear c20
                                              try clear c21
                                              try clear c22
                                              try clear c22b0
                                              try clear c23
                                              try clear c23b0
                                              try clear p24
                                              try clear q24
                                              try clear hx24
                                              try clear c26
                                              try clear c27
                                              try clear c27b0
                                              try clear c28
                                              try clear c28b0
                                              try clear p29
                                              try clear q29
                                              try clear hx29
                                              try clear c34
                                              try clear c34b0
                                              try clear c34b1
                                              try clear c36
                                              try clear c36b0
                                              try clear c37
                                              try clear c37b0
                                              try clear p38
                                              try clear q38
                                              try clear hx38
                                              try clear c40
                                              try clear p1
                                              try clear p16
                                              try clear p19
                                              try clear p2
                                              try clear p24
                                              try clear p29
                                              try clear p3
                                              try clear p38
                                              try clear p6
                                              try clear p9
                                              try clear q1
                                              try clear q16
                                              try clear q19
                                              try clear q2
                                              try clear q24
                                              try clear q29
                                              try clear q3
                                              try clear q38
                                              try clear q9
                                              obtain ⟨x5_7, x6_7, x8_7, rfl, rfl, HA, HK7, HO_6, HB⟩ := hrel
                                              cases gk with
                                              | zero => exact absurd HA.out (by simp [casketref4_ParseFloat.l1])
                                              | succ k7 =>
                                                have H := HA.out
                                                clear HA
                                                simp only [casketref4_ParseFloat.l1] at H
                                                have HC41 := Aside0.mk H
                                                clear H
                                                go_upto_region 27 with (fail)
                                                go_cut [88] (fun v88 wc => ∃ (kq : Nat) (x88_40 : Bool), v88 = .bool x88_40 ∧ Aside0 (casketref4_ParseFloat.j7 kq x0_9 x4_9 x5_7 x6_7 x8_7 x88_40 = some (r1, r2)) ∧ Aside0 (kq ≤ k7) ∧ Aside0 (Kd.R (Kd.int .i64) 3 wc w.heap.size (fun _ => True) u6 x6_7) ∧ Aside0 (Below w.heap.size w wc))
                                                case first => as_aux_lemma =>
                                                  have H := HC41.out
                                                  clear HC41
                                                  by_cases c42 : x5_7 < (x0_9.size : Int)
                                                  · rw [if_pos c42] at H
                                                    have c42b0 : decide (x5_7 < (x0_9.size : Int)) = true := decide_eq_true c42
                                                    clear c42
                                                    (first | rw [c42b0] | (simp only [i64_w, i32_w]; rw [c42b0]) | skip)
                                                    by_cases c43 : 0 ≤ x5_7
                                                    · rw [if_pos c43] at H
                                                      have c43b0 : decide (0 ≤ x5_7) = true := decide_eq_true c43
                                                      clear c43
                                                      replace H := Option.bind_eq_some_iff.mp H
                                                      obtain ⟨t236, A450, H⟩ := H
                                                      replace H : (casketref4_ParseFloat.j7 k7 x0_9 x4_9 x5_7 x6_7 x8_7 (decide (t236 ≥ 0))) = some (r1, r2) := H
                                                      have A45 := Aside0.mk A450
                                                      clear A450
                                                      have H' := Aside0.mk H
                                                      clear H
                                                      have p44 : 0 ≤ (x5_7 : Int) := of_decide_eq_true (by first | (with_reducible assumption) | assumption)
                                                      have q44 : x5_7 < (x0_9.size : Int) := of_decide_eq_true (by first | (with_reducible assumption) | assumption)
                                                      have hx44 := bt_at x0_9 x5_7
                                                      replace p44 := eq_true p44
                                                      replace q44 := eq_true q44
                                                      go_wp2_with (first | (go_at_call 36; (with_reducible refine (casketref4_hex.calls k7 (bt x0_9 x5_7) t236 _ A45.out).mono ?_); rintro e w' ⟨rfl, ⟨nd, rfl⟩⟩))
                                                      go_meet
                                                      case rel => exact ⟨_, (decide (t236 ≥ 0)), (by first | rfl | (simp; done) | (simp [*]; done)), H', ⟨by have := HJ5.out; have := HJ9.out; have := HJ12.out; have := HK4.out; have := HJ20.out; have := HJ34.out; have := HK7.out; first | omega | exact Nat.le_refl _⟩, ⟨by (with_reducible repeat (first | apply Kd.R_alloc | apply Kd.R_drewN | apply Kd.R_drew)); exact HO_6.out⟩, ⟨by repeat (first | (with_reducible first | exact HB.out | apply below_alloc | apply pw_below_drewN | apply below_drew1) | exact HB.out)⟩⟩
                                                    · rw [if_neg c43] at H
                                                      exact absurd H (by simp)
                                                  · rw [if_neg c42] at H
                                                    have c42b0 : decide (x5_7 < (x0_9.size : Int)) = false := decide_eq_false c42
                                                    clear c42
                                                    (first | rw [c42b0] | (simp only [i64_w, i32_w]; rw [c42b0]) | skip)
                                                    have H' := Aside0.mk H
                                                    clear H
                                                    go_wp2
                                                    go_meet
                                                    case rel => exact ⟨_, (false), (by first | rfl | (simp; done) | (simp [*]; done)), H', ⟨by have := HJ5.out; have := HJ9.out; have := HJ12.out; have := HK4.out; have := HJ20.out; have := HJ34.out; have := HK7.out; first | omega | exact Nat.le_refl _⟩, ⟨by (with_reducible repeat (first | apply Kd.R_alloc | apply Kd.R_drewN | apply Kd.R_drew)); exact HO_6.out⟩, ⟨by repeat (first | (with_reducible first | exact HB.out | apply below_alloc | apply pw_below_drewN | apply below_drew1) | exact HB.out)⟩⟩
                                                case rest => as_aux_lemma =>
                                                  clear HC41
                                                  try clear c1
                                                  try clear p1
                                                  try clear q1
                                                  try clear hx1
                                                  try clear qi1
                                                  try clear c2
                                                  try clear c2b0
                                                  try clear c2b1
                                                  try clear p2
                                                  try clear q2
                                                  try clear hx2
                                                  try clear c3
                                                  try clear c3b0
                                                  try clear c3b1
                                                  try clear p3
                                                  try clear q3
                                                  try clear hx3
                                                  try clear c4
                                                  try clear c4b0
                                                  try clear c4b1
                                                  try clear p4
                                                  try clear q4
                                                  try clear hx4
                                                  try clear c5
                                                  try clear c5b0
                                                  try clear c5b1
                                                  try clear p6
                                                  try clear c7
                                                  try clear c7b0
                                                  try clear c7b1
                                                  try clear c8
                                                  try clear c8b0
                                                  try clear c8b1
                                                  try clear p9
                                                  try clear q9
                                                  try clear hx9
                                                  try clear qi9
                                                  try clear c11
                                                  try clear c12
                                                  try clear c12b0
                                                  try clear c12b1
                                                  try clear c14
                                                  try clear c14b0
                                                  try clear c14b1
                                                  try clear c15
                                                  try clear c15b0
                                                  try clear c15b1
                                                  try clear p16
                                                  try clear q16
                                                  try clear hx16
                                                  try clear qi16
                                                  try clear c17
                                                  try clear c17b0
                                                  try clear c17b1
                                                  try clear c18
                                                  try clear c18b0
                                                  try clear c18b1
                                                  try clear p19
                                                  try clear q19
                                                  try clear hx19
                                                  try clear qi19
                                                  try clear c20
                                                  try clear c21
                                                  try clear c22
                                                  try clear c22b0
                                                  try clear c23
                                                  try clear c23b0
                                                  try clear p24
                                                  try clear q24
                                                  try clear hx24
                                                  try clear c26
                                                  try clear c27
                                                  try clear c27b0
                                                  try clear c28
                                                  try clear c28b0
                                                  try clear p29
                                                  try clear q29
                                                  try clear hx29
                                                  try clear c34
                                                  try clear c34b0
                                                  try clear c34b1
                                                  try clear c36
                                                  try clear c36b0
                                                  try clear c37
                                                  try clear c37b0
                                                  try clear p38
                                                  try clear q38
                                                  try clear hx38
                                                  try clear c40
                                                  try clear c42
                                                  try clear c42b0
                                                  try clear c43
                                                  try clear c43b0
                                                  try clear p44
                                                  try clear q44
                                                  try clear hx44
                                                  try clear p1
                                                  try clear p16
                                                  try clear p19
                                                  try clear p2
                                                  try clear p24
                                                  try clear p29
                                                  try clear p3
                                                  try clear p38
                                                  try clear p44
                                                  try clear p6
                                                  try clear p9
                                                  try clear q1
                                                  try clear q16
                                                  try clear q19
                                                  try clear q2
                                                  try clear q24
                                                  try clear q29
                                                  try clear q3
                                                  try clear q38
                                                  try clear q44
                                                  try clear q9
                                                  obtain ⟨kq, x88_40, rfl, HA, HJ40, HO_6, HB⟩ := hcut
                                                  cases kq with
                                                  | zero => exact absurd HA.out (by simp [casketref4_ParseFloat.j7])
                                                  | succ kj40 =>
                                                    have H := HA.out
                                                    clear HA
                                                    simp only [casketref4_ParseFloat.j7] at H
                                                    by_cases c46 : x88_40 = true
                                                    · subst c46
                                                      have H1 : (if 0 ≤ x5_7 then (if x5_7 < (x0_9.size : Int) then ((casketref4_hex.f kj40 (bt x0_9 x5_7)).bind fun t237 => ((casketref4_nibble.f x6_7 t237).bind fun t238 => (casketref4_ParseFloat.l1 kj40 x0_9 x4_9 (wrap64 (x5_7 + 1)) t238 (wrap64 (x8_7 + 1))))) else (none)) else (none)) = some (r1, r2) := by rw [if_pos rfl] at H; exact H
                                                      clear H
                                                      have H := H1
                                                      clear H1
                                                      by_cases c47 : 0 ≤ x5_7
                                                      · rw [if_pos c47] at H
                                                        have c47b0 : decide (0 ≤ x5_7) = true := decide_eq_true c47
                                                        clear c47
                                                        by_cases c48 : x5_7 < (x0_9.size : Int)
                                                        · rw [if_pos c48] at H
                                                          have c48b0 : decide (x5_7 < (x0_9.size : Int)) = true := decide_eq_true c48
                                                          clear c48
                                                          replace H := Option.bind_eq_some_iff.mp H
                                                          obtain ⟨t237, A500, H⟩ := H
                                                          replace H : ((casketref4_nibble.f x6_7 t237).bind fun t238 => (casketref4_ParseFloat.l1 kj40 x0_9 x4_9 (wrap64 (x5_7 + 1)) t238 (wrap64 (x8_7 + 1)))) = some (r1, r2) := H
                                                          have A50 := Aside0.mk A500
                                                          clear A500
                                                          replace H := Option.bind_eq_some_iff.mp H
                                                          obtain ⟨t238, A510, H⟩ := H
                                                          replace H : (casketref4_ParseFloat.l1 kj40 x0_9 x4_9 (wrap64 (x5_7 + 1)) t238 (wrap64 (x8_7 + 1))) = some (r1, r2) := H
                                                          have A51 := Aside0.mk A510
                                                          clear A510
                                                          have H' := Aside0.mk H
                                                          clear H
                                                          have p49 : 0 ≤ (x5_7 : Int) := of_decide_eq_true (by first | (with_reducible assumption) | assumption)
                                                          have q49 : x5_7 < (x0_9.size : Int) := of_decide_eq_true (by first | (with_reducible assumption) | assumption)
                                                          have hx49 := bt_at x0_9 x5_7
                                                          replace p49 := eq_true p49
                                                          replace q49 := eq_true q49
                                                          go_wp2_with (first | ((with_reducible refine gate_callee (f := 36) rfl ?_); refine goesL_ (some 93) rfl rfl Tryd.func36 (by kernel_rfl) rfl #[.int .u8 (bt x0_9 x5_7)] rfl (by (try simp only [List.map_toArray, List.map_cons, List.map_nil]); first | done | rfl | (simp only [List.length_drop, List.length_take]; rfl)) ?_; (with_reducible refine (casketref4_hex.calls kj40 (bt x0_9 x5_7) t237 _ A50.out).mono ?_); rintro e w' ⟨rfl, ⟨nd, rfl⟩⟩; refine ⟨_, rfl, ?_⟩; obtain ⟨Ao52, co52, eo52⟩ := Kd.R_slice HO_6.out; subst eo52) | ((with_reducible refine gate_callee (f := 37) rfl ?_); refine goesL_ (some 94) rfl rfl Tryd.func37 (by kernel_rfl) rfl #[.slice Ao52 x6_7.length co52, .int .i64 t237] rfl (by (try simp only [List.map_toArray, List.map_cons, List.map_nil]); first | done | rfl | (simp only [List.length_drop, List.length_take]; rfl)) ?_; (with_reducible refine (casketref4_nibble.calls (fun k_ => some k_ = (.slice Ao52 x6_7.length co52 : Value).ownBlock) (.slice Ao52 x6_7.length co52) x6_7 t237 t238 w _ ?side1 ?side2 A51.out).mono ?_); (case side1 => repeat (first | (with_reducible first | exact HB.out | apply below_alloc | apply pw_below_drewN | apply below_drew1) | exact HB.out)); (case side2 => exact Kd.R_tight rfl HO_6.out); rintro e w53 ⟨v239, rfl, ho0, hb, hkp⟩; refine ⟨_, rfl, ?_⟩; have n0_ := Aside0.mk (Kd.R_mono (ok' := fun k_ => True) ho0 (fun k_ hk_ => trivial)); have n1_ := Aside0.mk (hb); clear HB; clear HO_6; have HO240 := n0_; have HB := n1_; clear n0_ n1_; (try clear hb); (try clear hkp); (try clear ho0)))
                                                          go_roundg kj40
                                                          case measure => have := HJ5.out; have := HJ9.out; have := HJ12.out; have := HK4.out; have := HJ20.out; have := HJ34.out; have := HK7.out; have := HJ40.out; omega
                                                          case rel => exact ⟨(wrap64 (x5_7 + 1)), (t238), (wrap64 (x8_7 + 1)), (by first | rfl | (simp; done) | (simp [*]; done)), (by first | rfl | (simp; done) | (simp [*]; done)), H', ⟨by have := HJ5.out; have := HJ9.out; have := HJ12.out; have := HK4.out; have := HJ20.out; have := HJ34.out; have := HK7.out; have := HJ40.out; omega⟩, ⟨by (with_reducible repeat (first | apply Kd.R_alloc | apply Kd.R_drewN | apply Kd.R_drew)); exact HO240.out⟩, ⟨by repeat (first | (with_reducible first | exact HB.out | apply below_alloc | apply pw_below_drewN | apply below_drew1) | exact HB.out)⟩⟩
                                                        · rw [if_neg c48] at H
                                                          exact absurd H (by simp)
                                                      · rw [if_neg c47] at H
                                                        exact absurd H (by simp)
                                                    · replace c46 := Bool.eq_false_iff.mpr c46
                                                      subst c46
                                                      have H1 : (if x8_7 = 0 then (some (0, 20)) else (casketref4_ParseFloat.j8 kj40 x0_9 x4_9 x5_7 x6_7 x8_7)) = some (r1, r2) := by rw [if_neg (show ¬ (false = true) by decide)] at H; exact H
                                                      clear H
                                                      have H := H1
                                                      clear H1
                                                      by_cases c54 : x8_7 = 0
                                                      · rw [if_pos c54] at H
                                                        have c54b0 : (x8_7 == 0) = true := beq_iff_eq.mpr c54
                                                        have c54b1 : (x8_7 != 0) = false := bne_eq_false_iff_eq.mpr c54
                                                        clear c54
                                                        simp only [Option.some.injEq, Prod.mk.injEq] at H
                                                        obtain ⟨rfl, rfl⟩ := H
                                                        go_wp2
                                                        go_ret2
                                                        exact ⟨by first | rfl | (simp [errW_none, errW_some] <;> rfl) | (simp [*, errW_none, errW_some] <;> rfl), by repeat (first | (with_reducible first | exact HB.out | apply below_alloc | apply pw_below_drewN | apply below_drew1) | exact HB.out)⟩
                                                      · rw [if_neg c54] at H
                                                        have c54b0 : (x8_7 == 0) = false := beq_eq_false_iff_ne.mpr c54
                                                        have c54b1 : (x8_7 != 0) = true := bne_iff_ne.mpr c54
                                                        have H' := Aside0.mk H
                                                        clear H
                                                        go_wp2
                                                        go_meet
                                                        case rel => exact ⟨_, (x5_7), (x6_7), (x8_7), (by first | rfl | (simp; done) | (simp [*]; done)), (by first | rfl | (simp; done) | (simp [*]; done)), H', ⟨by have := HJ5.out; have := HJ9.out; have := HJ12.out; have := HK4.out; have := HJ20.out; have := HJ34.out; have := HK7.out; have := HJ40.out; first | omega | exact Nat.le_refl _⟩, ⟨by (with_reducible repeat (first | apply Kd.R_alloc | apply Kd.R_drewN | apply Kd.R_drew)); exact HO_6.out⟩, ⟨by repeat (first | (with_reducible first | exact HB.out | apply below_alloc | apply pw_below_drewN | apply below_drew1) | exact HB.out)⟩⟩
                                          · replace c40 := Bool.eq_false_iff.mpr c40
                                            subst c40
                                            have H1 : (casketref4_ParseFloat.j8 kj34 x0_9 x4_9 x5_4 x6_4 0) = some (r1, r2) := by rw [if_neg (show ¬ (false = true) by decide)] at H; exact H
                                            clear H
                                            have H := H1
                                            clear H1
                                            have H' := Aside0.mk H
                                            clear H
                                            go_wp2
                                            go_meet
                                            case rel => exact ⟨_, (x5_4), (x6_4), (0), (by first | rfl | (simp; done) | (simp [*]; done)), (by first | rfl | (simp; done) | (simp [*]; done)), H', ⟨by have := HJ5.out; have := HJ9.out; have := HJ12.out; have := HK4.out; have := HJ20.out; have := HJ34.out; first | omega | exact Nat.le_refl _⟩, ⟨by (with_reducible repeat (first | apply Kd.R_alloc | apply Kd.R_drewN | apply Kd.R_drew)); exact HO_6.out⟩, ⟨by repeat (first | (with_reducible first | exact HB.out | apply below_alloc | apply pw_below_drewN | apply below_drew1) | exact HB.out)⟩⟩
                                        case rest => as_aux_lemma =>
                                          clear HC39
                                          try clear c1
                                          try clear p1
                                          try clear q1
                                          try clear hx1
                                          try clear qi1
                                          try clear c2
                                          try clear c2b0
                                          try clear c2b1
                                          try clear p2
                                          try clear q2
                                          try clear hx2
                                          try clear c3
                                          try clear c3b0
                                          try clear c3b1
                                          try clear p3
                                          try clear q3
                                          try clear hx3
                                          try clear c4
                                          try clear c4b0
                                          try clear c4b1
                                          try clear p4
                                          try clear q4
                                          try clear hx4
                                          try clear c5
                                          try clear c5b0
                                          try clear c5b1
                                          try clear p6
                                          try clear c7
                                          try clear c7b0
                                          try clear c7b1
                                          try clear c8
                                          try clear c8b0
                                          try clear c8b1
                                          try clear p9
                                          try clear q9
                                          try clear hx9
                                          try clear qi9
                                          try clear c11
                                          try clear c12
                                          try clear c12b0
                                          try clear c12b1
                                          try clear c14
                                          try clear c14b0
                                          try clear c14b1
                                          try clear c15
                                          try clear c15b0
                                          try clear c15b1
                                          try clear p16
                                          try clear q16
                                          try clear hx16
                                          try clear qi16
                                          try clear c17
                                          try clear c17b0
                                          try clear c17b1
                                          try clear c18
                                          try clear c18b0
                                          try clear c18b1
                                          try clear p19
                                          try clear q19
                                          try clear hx19
                                          try clear qi19
                                          try clear c20
                                          try clear c21
                                          try clear c22
                                          try clear c22b0
                                          try clear c23
                                          try clear c23b0
                                          try clear p24
                                          try clear q24
                                          try clear hx24
                                          try clear c26
                                          try clear c27
                                          try clear c27b0
                                          try clear c28
                                          try clear c28b0
                                          try clear p29
                                          try clear q29
                                          try clear hx29
                                          try clear c34
                                          try clear c34b0
                                          try clear c34b1
                                          try clear c36
                                          try clear c36b0
                                          try clear c37
                                          try clear c37b0
                                          try clear p38
                                          try clear q38
                                          try clear hx38
                                          try clear c40
                                          try clear c42
                                          try clear c42b0
                                          try clear c43
                                          try clear c43b0
                                          try clear p44
                                          try clear q44
                                          try clear hx44
                                          try clear c46
                                          try clear c47
                                          try clear c47b0
                                          try clear c48
                                          try clear c48b0
                                          try clear p49
                                          try clear q49
                                          try clear hx49
                                          try clear c54
                                          try clear c54b0
                                          try clear c54b1
                                          try clear p1
                                          try clear p16
                                          try clear p19
                                          try clear p2
                                          try clear p24
                                          try clear p29
                                          try clear p3
                                          try clear p38
                                          try clear p4
                                          try clear p44
                                          try clear p49
                                          try clear p6
                                          try clear p9
                                          try clear q1
                                          try clear q16
                                          try clear q19
                                          try clear q2
                                          try clear q24
                                          try clear q29
                                          try clear q3
                                          try clear q38
                                          try clear q4
                                          try clear q44
                                          try clear q49
                                          try clear q9
                                          obtain ⟨kq, x5_38, x6_38, x8_38, rfl, rfl, HA, HJ38, HO_6, HB⟩ := hcut
                                          cases kq with
                                          | zero => exact absurd HA.out (by simp [casketref4_ParseFloat.j8])
                                          | succ kj38 =>
                                            have H := HA.out
                                            clear HA
                                            simp only [casketref4_ParseFloat.j8] at H
                                            have HC55 := Aside0.mk H
                                            clear H
                                            go_upto_region 33 with (fail)
                                            go_cut [125] (fun v125 wc => ∃ (kq : Nat) (x125_54 : Bool), v125 = .bool x125_54 ∧ Aside0 (casketref4_ParseFloat.j9 kq x0_9 x4_9 x5_38 x6_38 x8_38 x125_54 = some (r1, r2)) ∧ Aside0 (kq ≤ kj38) ∧ Aside0 (Kd.R (Kd.int .i64) 3 wc w.heap.size (fun _ => True) u6 x6_38) ∧ Aside0 (Below w.heap.size w wc))
                                            case first => as_aux_lemma =>
                                              have H := HC55.out
                                              clear HC55
                                              by_cases c56 : (wrap64 (x5_38 + 1)) ≥ (x0_9.size : Int)
                                              · rw [if_pos c56] at H
                                                have c56b0 : decide ((x0_9.size : Int) ≤ (wrap64 (x5_38 + 1))) = true := decide_eq_true c56
                                                clear c56
                                                (first | rw [c56b0] | (simp only [i64_w, i32_w]; rw [c56b0]) | skip)
                                                have H' := Aside0.mk H
                                                clear H
                                                go_wp2
                                                go_meet
                                                case rel => exact ⟨_, (true), (by first | rfl | (simp; done) | (simp [*]; done)), H', ⟨by have := HJ5.out; have := HJ9.out; have := HJ12.out; have := HK4.out; have := HJ20.out; have := HJ34.out; have := HJ38.out; first | omega | exact Nat.le_refl _⟩, ⟨by (with_reducible repeat (first | apply Kd.R_alloc | apply Kd.R_drewN | apply Kd.R_drew)); exact HO_6.out⟩, ⟨by repeat (first | (with_reducible first | exact HB.out | apply below_alloc | apply pw_below_drewN | apply below_drew1) | exact HB.out)⟩⟩
                                              · rw [if_neg c56] at H
                                                have c56b0 : decide ((x0_9.size : Int) ≤ (wrap64 (x5_38 + 1))) = false := decide_eq_false c56
                                                clear c56
                                                (first | rw [c56b0] | (simp only [i64_w, i32_w]; rw [c56b0]) | skip)
                                                by_cases c57 : 0 ≤ x5_38
                                                · rw [if_pos c57] at H
                                                  have c57b0 : decide (0 ≤ x5_38) = true := decide_eq_true c57
                                                  clear c57
                                                  by_cases c58 : x5_38 < (x0_9.size : Int)
                                                  · rw [if_pos c58] at H
                                                    have c58b0 : decide (x5_38 < (x0_9.size : Int)) = true := decide_eq_true c58
                                                    clear c58
                                                    by_cases c60 : (bt x0_9 x5_38) = 112
                                                    · rw [if_pos c60] at H
                                                      have c60b0 : ((bt x0_9 x5_38) == 112) = true := beq_iff_eq.mpr c60
                                                      have c60b1 : ((bt x0_9 x5_38) != 112) = false := bne_eq_false_iff_eq.mpr c60
                                                      clear c60
                                                      obtain ⟨ji61, hji61⟩ : ∃ j_ : Int, (wrap64 (x5_38 + 1)) = j_ := ⟨_, rfl⟩
                                                      replace H : (if 0 ≤ (ji61) then (if (ji61) < (x0_9.size : Int) then (if (bt x0_9 (ji61)) = 43 then (casketref4_ParseFloat.j9 kj38 x0_9 x4_9 x5_38 x6_38 x8_38 false) else (casketref4_ParseFloat.j9 kj38 x0_9 x4_9 x5_38 x6_38 x8_38 ((bt x0_9 (ji61)) != 45))) else (none)) else (none)) = some (r1, r2) := by first | (rw [hji61] at H; exact H) | (simp only [hji61] at H ⊢; exact H)
                                                      (try rw [hji61] at c56b0)
                                                      have hji61w : (IntKind.i64.wrap (x5_38 + 1)) = ji61 := (i64_w _).trans hji61
                                                      by_cases c62 : 0 ≤ (ji61)
                                                      · rw [if_pos c62] at H
                                                        have c62b0 : decide (0 ≤ (ji61)) = true := decide_eq_true c62
                                                        clear c62
                                                        by_cases c63 : (ji61) < (x0_9.size : Int)
                                                        · rw [if_pos c63] at H
                                                          have c63b0 : decide ((ji61) < (x0_9.size : Int)) = true := decide_eq_true c63
                                                          clear c63
                                                          by_cases c65 : (bt x0_9 (ji61)) = 43
                                                          · rw [if_pos c65] at H
                                                            have c65b0 : ((bt x0_9 (ji61)) == 43) = true := beq_iff_eq.mpr c65
                                                            have c65b1 : ((bt x0_9 (ji61)) != 43) = false := bne_eq_false_iff_eq.mpr c65
                                                            clear c65
                                                            have H' := Aside0.mk H
                                                            clear H
                                                            have p59 : 0 ≤ (x5_38 : Int) := of_decide_eq_true (by first | (with_reducible assumption) | assumption)
                                                            have q59 : x5_38 < (x0_9.size : Int) := of_decide_eq_true (by first | (with_reducible assumption) | assumption)
                                                            have hx59 := bt_at x0_9 x5_38
                                                            replace p59 := eq_true p59
                                                            replace q59 := eq_true q59
                                                            have p64 : 0 ≤ ((ji61) : Int) := of_decide_eq_true (by first | (with_reducible assumption) | assumption)
                                                            have q64 : (ji61) < (x0_9.size : Int) := of_decide_eq_true (by first | (with_reducible assumption) | assumption)
                                                            have hx64 := bt_at x0_9 (ji61)
                                                            replace p64 := eq_true p64
                                                            replace q64 := eq_true q64
                                                            go_wp2
                                                            go_meet
                                                            case rel => exact ⟨_, (false), (by first | rfl | (simp; done) | (simp [*]; done)), H', ⟨by have := HJ5.out; have := HJ9.out; have := HJ12.out; have := HK4.out; have := HJ20.out; have := HJ34.out; have := HJ38.out; first | omega | exact Nat.le_refl _⟩, ⟨by (with_reducible repeat (first | apply Kd.R_alloc | apply Kd.R_drewN | apply Kd.R_drew)); exact HO_6.out⟩, ⟨by repeat (first | (with_reducible first | exact HB.out | apply below_alloc | apply pw_below_drewN | apply below_drew1) | exact HB.out)⟩⟩
                                                          · rw [if_neg c65] at H
                                                            have c65b0 : ((bt x0_9 (ji61)) == 43) = false := beq_eq_false_iff_ne.mpr c65
                                                            have c65b1 : ((bt x0_9 (ji61)) != 43) = true := bne_iff_ne.mpr c65
                                                            have H' := Aside0.mk H
                                                            clear H
                                                            have p59 : 0 ≤ (x5_38 : Int) := of_decide_eq_true (by first | (with_reducible assumption) | assumption)
                                                            have q59 : x5_38 < (x0_9.size : Int) := of_decide_eq_true (by first | (with_reducible assumption) | assumption)
                                                            have hx59 := bt_at x0_9 x5_38
                                                            replace p59 := eq_true p59
                                                            replace q59 := eq_true q59
                                                            have p64 : 0 ≤ ((ji61) : Int) := of_decide_eq_true (by first | (with_reducible assumption) | assumption)
                                                            have q64 : (ji61) < (x0_9.size : Int) := of_decide_eq_true (by first | (with_reducible assumption) | assumption)
                                                            have hx64 := bt_at x0_9 (ji61)
                                                            replace p64 := eq_true p64
                                                            replace q64 := eq_true q64
                                                            have p66 : 0 ≤ ((ji61) : Int) := of_decide_eq_true (by first | (with_reducible assumption) | assumption)
                                                            have q66 : (ji61) < (x0_9.size : Int) := of_decide_eq_true (by first | (with_reducible assumption) | assumption)
                                                            have hx66 := bt_at x0_9 (ji61)
                                                            replace p66 := eq_true p66
                                                            replace q66 := eq_true q66
                                                            go_wp2
                                                            go_meet
                                                            case rel => exact ⟨_, (((bt x0_9 (ji61)) != 45)), (by first | rfl | (simp; done) | (simp only [← hji61] <;> (first | rfl | simp)) | (simp [*]; done)), H', ⟨by have := HJ5.out; have := HJ9.out; have := HJ12.out; have := HK4.out; have := HJ20.out; have := HJ34.out; have := HJ38.out; first | omega | exact Nat.le_refl _⟩, ⟨by (with_reducible repeat (first | apply Kd.R_alloc | apply Kd.R_drewN | apply Kd.R_drew)); exact HO_6.out⟩, ⟨by repeat (first | (with_reducible first | exact HB.out | apply below_alloc | apply pw_below_drewN | apply below_drew1) | exact HB.out)⟩⟩
                                                        · rw [if_neg c63] at H
                                                          exact absurd H (by simp)
                                                      · rw [if_neg c62] at H
                                                        exact absurd H (by simp)
                                                    · rw [if_neg c60] at H
                                                      have c60b0 : ((bt x0_9 x5_38) == 112) = false := beq_eq_false_iff_ne.mpr c60
                                                      have c60b1 : ((bt x0_9 x5_38) != 112) = true := bne_iff_ne.mpr c60
                                                      have H' := Aside0.mk H
                                                      clear H
                                                      have p59 : 0 ≤ (x5_38 : Int) := of_decide_eq_true (by first | (with_reducible assumption) | assumption)
                                                      have q59 : x5_38 < (x0_9.size : Int) := of_decide_eq_true (by first | (with_reducible assumption) | assumption)
                                                      have hx59 := bt_at x0_9 x5_38
                                                      replace p59 := eq_true p59
                                                      replace q59 := eq_true q59
                                                      go_wp2
                                                      go_meet
                                                      case rel => exact ⟨_, (true), (by first | rfl | (simp; done) | (simp [*]; done)), H', ⟨by have := HJ5.out; have := HJ9.out; have := HJ12.out; have := HK4.out; have := HJ20.out; have := HJ34.out; have := HJ38.out; first | omega | exact Nat.le_refl _⟩, ⟨by (with_reducible repeat (first | apply Kd.R_alloc | apply Kd.R_drewN | apply Kd.R_drew)); exact HO_6.out⟩, ⟨by repeat (first | (with_reducible first | exact HB.out | apply below_alloc | apply pw_below_drewN | apply below_drew1) | exact HB.out)⟩⟩
                                                  · rw [if_neg c58] at H
                                                    exact absurd H (by simp)
                                                · rw [if_neg c57] at H
                                                  exact absurd H (by simp)
                                            case rest => as_aux_lemma =>
                                              clear HC55
                                              try clear c1
                                              try clear p1
                                              try clear q1
                                              try clear hx1
                                              try clear qi1
                                              try clear c2
                                              try clear c2b0
                                              try clear c2b1
                                              try clear p2
                                              try clear q2
                                              try clear hx2
                                              try clear c3
                                              try clear c3b0
                                              try clear c3b1
                                              try clear p3
                                              try clear q3
                                              try clear hx3
                                              try clear c4
                                              try clear c4b0
                                              try clear c4b1
                                              try clear p4
                                              try clear q4
                                              try clear hx4
                                              try clear c5
                                              try clear c5b0
                                              try clear c5b1
                                              try clear p5
                                              try clear q5
                                              try clear hx5
                                              try clear c6
                                              try clear p6
                                              try clear q6
                                              try clear hx6
                                              try clear c7
                                              try clear c7b0
                                              try clear c7b1
                                              try clear c8
                                              try clear c8b0
                                              try clear c8b1
                                              try clear p9
                                              try clear q9
                                              try clear hx9
                                              try clear qi9
                                              try clear c11
                                              try clear c12
                                              try clear c12b0
                                              try clear c12b1
                                              try clear c14
                                              try clear c14b0
                                              try clear c14b1
                                              try clear c15
                                              try clear c15b0
                                              try clear c15b1
                                              try clear p16
                                              try clear q16
                                              try clear hx16
                                              try clear qi16
                                              try clear c17
                                              try clear c17b0
                                              try clear c17b1
                                              try clear c18
                                              try clear c18b0
                                              try clear c18b1
                                              try clear p19
                                              try clear q19
                                              try clear hx19
                                              try clear qi19
                                              try clear c20
                                              try clear c21
                                              try clear c22
                                              try clear c22b0
                                              try clear c23
                                              try clear c23b0
                                              try clear p24
                                              try clear q24
                                              try clear hx24
                                              try clear c26
                                              try clear c27
                                              try clear c27b0
                                              try clear c28
                                              try clear c28b0
                                              try clear p29
                                              try clear q29
                                              try clear hx29
                                              try clear c34
                                              try clear c34b0
                                              try clear c34b1
                                              try clear c36
                                              try clear c36b0
                                              try clear c37
                                              try clear c37b0
                                              try clear p38
                                              try clear q38
                                              try clear hx38
                                              try clear c40
                                              try clear c42
                                              try clear c42b0
                                              try clear c43
                                              try clear c43b0
                                              try clear p44
                                              try clear q44
                                              try clear hx44
                                              try clear c46
                                              try clear c47
                                              try clear c47b0
                                              try clear c48
                                              try clear c48b0
                                              try clear p49
                                              try clear q49
                                              try clear hx49
                                              try clear c54
                                              try clear c54b0
                                              try clear c54b1
                                              try clear c56
                                              try clear c56b0
                                              try clear c57
                                              try clear c57b0
                                              try clear c58
                                              try clear c58b0
                                              try clear p59
                                              try clear q59
                                              try clear hx59
                                              try clear c60
                                              try clear c60b0
                                              try clear c60b1
                                              try clear c62
                                              try clear c62b0
                                              try clear c63
                                              try clear c63b0
                                              try clear p64
                                              try clear q64
                                              try clear hx64
                                              try clear c65
                                              try clear c65b0
                                              try clear c65b1
                                              try clear p66
                                              try clear q66
                                              try clear hx66
                                              try clear p1
                                              try clear p16
                                              try clear p19
                                              try clear p2
                                              try clear p24
                                              try clear p29
                                              try clear p3
                                              try clear p38
                                              try clear p4
                                              try clear p44
                                              try clear p49
                                              try clear p59
                                              try clear p6
                                              try clear p64
                                              try clear p66
                                              try clear p9
                                              try clear q1
                                              try clear q16
                                              try clear q19
                                              try clear q2
                                              try clear q24
                                              try clear q29
                                              try clear q3
                                              try clear q38
                                              try clear q4
                                              try clear q44
                                              try clear q49
                                              try clear q59
                                              try clear q64
                                              try clear q66
                                              try clear q9
                                              obtain ⟨kq, x125_54, rfl, HA, HJ54, HO_6, HB⟩ := hcut
                                              cases kq with
                                              | zero => exact absurd HA.out (by simp [casketref4_ParseFloat.j9])
                                              | succ kj54 =>
                                                have H := HA.out
                                                clear HA
                                                simp only [casketref4_ParseFloat.j9] at H
                                                by_cases c67 : x125_54 = true
                                                · subst c67
                                                  have H1 : (some (0, 20)) = some (r1, r2) := by rw [if_pos rfl] at H; exact H
                                                  clear H
                                                  have H := H1
                                                  clear H1
                                                  simp only [Option.some.injEq, Prod.mk.injEq] at H
                                                  obtain ⟨rfl, rfl⟩ := H
                                                  go_wp2
                                                  go_ret2
                                                  exact ⟨by first | rfl | (simp [errW_none, errW_some] <;> rfl) | (simp [*, errW_none, errW_some] <;> rfl), by repeat (first | (with_reducible first | exact HB.out | apply below_alloc | apply pw_below_drewN | apply below_drew1) | exact HB.out)⟩
                                                · replace c67 := Bool.eq_false_iff.mpr c67
                                                  subst c67
                                                  have H1 : (if 0 ≤ (wrap64 (x5_38 + 1)) then (if (wrap64 (x5_38 + 1)) < (x0_9.size : Int) then (if (wrap64 (x5_38 + 2)) = (x0_9.size : Int) then (casketref4_ParseFloat.j10 kj54 x0_9 x4_9 (wrap64 (x5_38 + 2)) x6_38 x8_38 ((bt x0_9 (wrap64 (x5_38 + 1))) == 45) true) else (casketref4_ParseFloat.j10 kj54 x0_9 x4_9 (wrap64 (x5_38 + 2)) x6_38 x8_38 ((bt x0_9 (wrap64 (x5_38 + 1))) == 45) (decide ((wrap64 ((x0_9.size : Int) - (wrap64 (x5_38 + 2)))) > 5)))) else (none)) else (none)) = some (r1, r2) := by rw [if_neg (show ¬ (false = true) by decide)] at H; exact H
                                                  clear H
                                                  have H := H1
                                                  clear H1
                                                  obtain ⟨ji68, hji68⟩ : ∃ j_ : Int, (wrap64 (x5_38 + 1)) = j_ := ⟨_, rfl⟩
                                                  replace H : (if 0 ≤ (ji68) then (if (ji68) < (x0_9.size : Int) then (if (wrap64 (x5_38 + 2)) = (x0_9.size : Int) then (casketref4_ParseFloat.j10 kj54 x0_9 x4_9 (wrap64 (x5_38 + 2)) x6_38 x8_38 ((bt x0_9 (ji68)) == 45) true) else (casketref4_ParseFloat.j10 kj54 x0_9 x4_9 (wrap64 (x5_38 + 2)) x6_38 x8_38 ((bt x0_9 (ji68)) == 45) (decide ((wrap64 ((x0_9.size : Int) - (wrap64 (x5_38 + 2)))) > 5)))) else (none)) else (none)) = some (r1, r2) := by first | (rw [hji68] at H; exact H) | (simp only [hji68] at H ⊢; exact H)
                                                  have hji68w : (IntKind.i64.wrap (x5_38 + 1)) = ji68 := (i64_w _).trans hji68
                                                  by_cases c69 : 0 ≤ (ji68)
                                                  · rw [if_pos c69] at H
                                                    have c69b0 : decide (0 ≤ (ji68)) = true := decide_eq_true c69
                                                    clear c69
                                                    by_cases c70 : (ji68) < (x0_9.size : Int)
                                                    · rw [if_pos c70] at H
                                                      have c70b0 : decide ((ji68) < (x0_9.size : Int)) = true := decide_eq_true c70
                                                      clear c70
                                                      have HC72 := Aside0.mk H
                                                      clear H
                                                      have p71 : 0 ≤ ((ji68) : Int) := of_decide_eq_true (by first | (with_reducible assumption) | assumption)
                                                      have q71 : (ji68) < (x0_9.size : Int) := of_decide_eq_true (by first | (with_reducible assumption) | assumption)
                                                      have hx71 := bt_at x0_9 (ji68)
                                                      replace p71 := eq_true p71
                                                      replace q71 := eq_true q71
                                                      go_upto_region 37 with (fail)
                                                      go_cut [143] (fun v143 wc => ∃ (kq : Nat) (x143_71 : Bool), v143 = .bool x143_71 ∧ Aside0 (casketref4_ParseFloat.j10 kq x0_9 x4_9 (wrap64 (x5_38 + 2)) x6_38 x8_38 ((bt x0_9 (ji68)) == 45) x143_71 = some (r1, r2)) ∧ Aside0 (kq ≤ kj54) ∧ Aside0 (Kd.R (Kd.int .i64) 3 wc w.heap.size (fun _ => True) u6 x6_38) ∧ Aside0 (Below w.heap.size w wc))
                                                      case first => as_aux_lemma =>
                                                        have H := HC72.out
                                                        clear HC72
                                                        by_cases c73 : (wrap64 (x5_38 + 2)) = (x0_9.size : Int)
                                                        · rw [if_pos c73] at H
                                                          have c73b0 : ((wrap64 (x5_38 + 2)) == (x0_9.size : Int)) = true := beq_iff_eq.mpr c73
                                                          have c73b1 : ((wrap64 (x5_38 + 2)) != (x0_9.size : Int)) = false := bne_eq_false_iff_eq.mpr c73
                                                          clear c73
                                                          (first | rw [c73b0] | (simp only [i64_w, i32_w]; rw [c73b0]) | skip)
                                                          have H' := Aside0.mk H
                                                          clear H
                                                          go_wp2
                                                          go_meet
                                                          case rel => exact ⟨_, (true), (by first | rfl | (simp; done) | (simp [*]; done)), H', ⟨by have := HJ5.out; have := HJ9.out; have := HJ12.out; have := HK4.out; have := HJ20.out; have := HJ34.out; have := HJ38.out; have := HJ54.out; first | omega | exact Nat.le_refl _⟩, ⟨by (with_reducible repeat (first | apply Kd.R_alloc | apply Kd.R_drewN | apply Kd.R_drew)); exact HO_6.out⟩, ⟨by repeat (first | (with_reducible first | exact HB.out | apply below_alloc | apply pw_below_drewN | apply below_drew1) | exact HB.out)⟩⟩
                                                        · rw [if_neg c73] at H
                                                          have c73b0 : ((wrap64 (x5_38 + 2)) == (x0_9.size : Int)) = false := beq_eq_false_iff_ne.mpr c73
                                                          have c73b1 : ((wrap64 (x5_38 + 2)) != (x0_9.size : Int)) = true := bne_iff_ne.mpr c73
                                                          (first | rw [c73b0] | (simp only [i64_w, i32_w]; rw [c73b0]) | skip)
                                                          have H' := Aside0.mk H
                                                          clear H
                                                          go_wp2
                                                          go_meet
                                                          case rel => exact ⟨_, (decide ((wrap64 ((x0_9.size : Int) - (wrap64 (x5_38 + 2)))) > 5)), (by first | rfl | (simp; done) | (simp [*]; done)), H', ⟨by have := HJ5.out; have := HJ9.out; have := HJ12.out; have := HK4.out; have := HJ20.out; have := HJ34.out; have := HJ38.out; have := HJ54.out; first | omega | exact Nat.le_refl _⟩, ⟨by (with_reducible repeat (first | apply Kd.R_alloc | apply Kd.R_drewN | apply Kd.R_drew)); exact HO_6.out⟩, ⟨by repeat (first | (with_reducible first | exact HB.out | apply below_alloc | apply pw_below_drewN | apply below_drew1) | exact HB.out)⟩⟩
                                                      case rest => as_aux_lemma =>
                                                        clear HC72
                                                        try clear c1
                                                        try clear p1
                                                        try clear q1
                                                        try clear hx1
                                                        try clear qi1
                                                        try clear c2
                                                        try clear c2b0
                                                        try clear c2b1
                                                        try clear p2
                                                        try clear q2
                                                        try clear hx2
                                                        try clear c3
                                                        try clear c3b0
                                                        try clear c3b1
                                                        try clear p3
                                                        try clear q3
                                                        try clear hx3
                                                        try clear c4
                                                        try clear c4b0
                                                        try clear c4b1
                                                        try clear p4
                                                        try clear q4
                                                        try clear hx4
                                                        try clear c5
                                                        try clear c5b0
                                                        try clear c5b1
                                                        try clear p5
                                                        try clear q5
                                                        try clear hx5
                                                        try clear c6
                                                        try clear p6
                                                        try clear q6
                                                        try clear hx6
                                                        try clear c7
                                                        try clear c7b0
                                                        try clear c7b1
                                                        try clear p7
                                                        try clear q7
                                                        try clear hx7
                                                        try clear c8
                                                        try clear c8b0
                                                        try clear c8b1
                                                        try clear p9
                                                        try clear q9
                                                        try clear hx9
                                                        try clear qi9
                                                        try clear c11
                                                        try clear c12
                                                        try clear c12b0
                                                        try clear c12b1
                                                        try clear c14
                                                        try clear c14b0
                                                        try clear c14b1
                                                        try clear c15
                                                        try clear c15b0
                                                        try clear c15b1
                                                        try clear p16
                                                        try clear q16
                                                        try clear hx16
                                                        try clear qi16
                                                        try clear c17
                                                        try clear c17b0
                                                        try clear c17b1
                                                        try clear c18
                                                        try clear c18b0
                                                        try clear c18b1
                                                        try clear p19
                                                        try clear q19
                                                        try clear hx19
                                                        try clear qi19
                                                        try clear c20
                                                        try clear c21
                                                        try clear c22
                                                        try clear c22b0
                                                        try clear c23
                                                        try clear c23b0
                                                        try clear p24
                                                        try clear q24
                                                        try clear hx24
                                                        try clear c26
                                                        try clear c27
                                                        try clear c27b0
                                                        try clear c28
                                                        try clear c28b0
                                                        try clear p29
                                                        try clear q29
                                                        try clear hx29
                                                        try clear c34
                                                        try clear c34b0
                                                        try clear c34b1
                                                        try clear c36
                                                        try clear c36b0
                                                        try clear c37
                                                        try clear c37b0
                                                        try clear p38
                                                        try clear q38
                                                        try clear hx38
                                                        try clear c40
                                                        try clear c42
                                                        try clear c42b0
                                                        try clear c43
                                                        try clear c43b0
                                                        try clear p44
                                                        try clear q44
                                                        try clear hx44
                                                        try clear c46
                                                        try clear c47
                                                        try clear c47b0
                                                        try clear c48
                                                        try clear c48b0
                                                        try clear p49
                                                        try clear q49
                                                        try clear hx49
                                                        try clear c54
                                                        try clear c54b0
                                                        try clear c54b1
                                                        try clear c56
                                                        try clear c56b0
                                                        try clear c57
                                                        try clear c57b0
                                                        try clear c58
                                                        try clear c58b0
                                                        try clear p59
                                                        try clear q59
                                                        try clear hx59
                                                        try clear c60
                                                        try clear c60b0
                                                        try clear c60b1
                                                        try clear c62
                                                        try clear c62b0
                                                        try clear c63
                                                        try clear c63b0
                                                        try clear p64
                                                        try clear q64
                                                        try clear hx64
                                                        try clear c65
                                                        try clear c65b0
                                                        try clear c65b1
                                                        try clear p66
                                                        try clear q66
                                                        try clear hx66
                                                        try clear c67
                                                        try clear c69
                                                        try clear c69b0
                                                        try clear c70
                                                        try clear c70b0
                                                        try clear p71
                                                        try clear q71
                                                        try clear hx71
                                                        try clear c73
                                                        try clear c73b0
                                                        try clear c73b1
                                                        try clear p1
                                                        try clear p16
                                                        try clear p19
                                                        try clear p2
                                                        try clear p24
                                                        try clear p29
                                                        try clear p3
                                                        try clear p38
                                                        try clear p4
                                                        try clear p44
                                                        try clear p49
                                                        try clear p5
                                                        try clear p59
                                                        try clear p6
                                                        try clear p64
                                                        try clear p66
                                                        try clear p71
                                                        try clear p9
                                                        try clear q1
                                                        try clear q16
                                                        try clear q19
                                                        try clear q2
                                                        try clear q24
                                                        try clear q29
                                                        try clear q3
                                                        try clear q38
                                                        try clear q4
                                                        try clear q44
                                                        try clear q49
                                                        try clear q5
                                                        try clear q59
                                                        try clear q6
                                                        try clear q64
                                                        try clear q66
                                                        try clear q71
                                                        try clear q9
                                                        obtain ⟨kq, x143_71, rfl, HA, HJ71, HO_6, HB⟩ := hcut
                                                        cases kq with
                                                        | zero => exact absurd HA.out (by simp [casketref4_ParseFloat.j10])
                                                        | succ kj71 =>
                                                          have H := HA.out
                                                          clear HA
                                                          simp only [casketref4_ParseFloat.j10] at H
                                                          by_cases c74 : x143_71 = true
                                                          · subst c74
                                                            have H1 : (some (0, 20)) = some (r1, r2) := by rw [if_pos rfl] at H; exact H
                                                            clear H
                                                            have H := H1
                                                            clear H1
                                                            simp only [Option.some.injEq, Prod.mk.injEq] at H
                                                            obtain ⟨rfl, rfl⟩ := H
                                                            go_wp2
                                                            go_ret2
                                                            exact ⟨by first | rfl | (simp [errW_none, errW_some] <;> rfl) | (simp only [← hji68]; first | rfl | (simp [errW_none, errW_some] <;> rfl)) | (simp [*, errW_none, errW_some] <;> rfl), by repeat (first | (with_reducible first | exact HB.out | apply below_alloc | apply pw_below_drewN | apply below_drew1) | exact HB.out)⟩
                                                          · replace c74 := Bool.eq_false_iff.mpr c74
                                                            subst c74
                                                            have H1 : (casketref4_ParseFloat.l2 kj71 x0_9 x4_9 (wrap64 (x5_38 + 2)) x6_38 x8_38 ((bt x0_9 (ji68)) == 45) 0) = some (r1, r2) := by rw [if_neg (show ¬ (false = true) by decide)] at H; exact H
                                                            clear H
                                                            have H := H1
                                                            clear H1
                                                            have H' := Aside0.mk H
                                                            clear H
                                                            go_wp2
                                                            go_loopg [5, 10] kj71 (fun kq v5 v10 w' => ∃ (x5_10 : Int) (x10_10 : Int), v5 = .int .i64 x5_10 ∧ v10 = .int .i64 x10_10 ∧ Aside0 (casketref4_ParseFloat.l2 kq x0_9 x4_9 x5_10 x6_38 x8_38 ((bt x0_9 (ji68)) == 45) x10_10 = some (r1, r2)) ∧ Aside0 (kq ≤ kj71) ∧ Aside0 (Kd.R (Kd.int .i64) 3 w' w.heap.size (fun _ => True) u6 x6_38) ∧ Aside0 (Below w.heap.size w w'))
                                                            case atStart => exact ⟨((wrap64 (x5_38 + 2))), (0), (by first | rfl | (simp; done) | (simp [*]; done)), (by first | rfl | (simp; done) | (simp [*]; done)), H', ⟨Nat.le_refl _⟩, ⟨by (with_reducible repeat (first | apply Kd.R_alloc | apply Kd.R_drewN | apply Kd.R_drew)); exact HO_6.out⟩, ⟨by repeat (first | (with_reducible first | exact HB.out | apply below_alloc | apply pw_below_drewN | apply below_drew1) | exact HB.out)⟩⟩
                                                            case round => as_aux_lemma =>
                                                              clear H'
                                                              try clear c1
                                                              try clear p1
                                                              try clear q1
                                                              try clear hx1
                                                              try clear qi1
                                                              try clear c2
                                                              try clear c2b0
                                                              try clear c2b1
                                                              try clear p2
                                                              try clear q2
                                                              try clear hx2
                                                              try clear c3
                                                              try clear c3b0
                                                              try clear c3b1
                                                              try clear p3
                                                              try clear q3
                                                              try clear hx3
                                                              try clear c4
                                                              try clear c4b0
                                                              try clear c4b1
                                                              try clear p4
                                                              try clear q4
                                                              try clear hx4
                                                              try clear c5
                                                              try clear c5b0
                                                              try clear c5b1
                                                              try clear p5
                                                              try clear q5
                                                              try clear hx5
                                                              try clear c6
                                                              try clear p6
                                                              try clear q6
                                                              try clear hx6
                                                              try clear c7
                                                              try clear c7b0
                                                              try clear c7b1
                                                              try clear p7
                                                              try clear q7
                                                              try clear hx7
                                                              try clear c8
                                                              try clear c8b0
                                                              try clear c8b1
                                                              try clear p9
                                                              try clear q9
                                                              try clear hx9
                                                              try clear qi9
                                                              try clear c11
                                                              try clear c12
                                                              try clear c12b0
                                                              try clear c12b1
                                                              try clear c14
                                                              try clear c14b0
                                                              try clear c14b1
                                                              try clear c15
                                                              try clear c15b0
                                                              try clear c15b1
                                                              try clear p16
                                                              try clear q16
                                                              try clear hx16
                                                              try clear qi16
                                                              try clear c17
                                                              try clear c17b0
                                                              try clear c17b1
                                                              try clear c18
                                                              try clear c18b0
                                                              try clear c18b1
                                                              try clear p19
                                                              try clear q19
                                                              try clear hx19
                                                              try clear qi19
                                                              try clear c20
                                                              try clear c21
                                                              try clear c22
                                                              try clear c22b0
                                                              try clear c23
                                                              try clear c23b0
                                                              try clear p24
                                                              try clear q24
                                                              try clear hx24
                                                              try clear c26
                                                              try clear c27
                                                              try clear c27b0
                                                              try clear c28
                                                              try clear c28b0
                                                              try clear p29
                                                              try clear q29
                                                              try clear hx29
                                                              try clear c34
                                                              try clear c34b0
                                                              try clear c34b1
                                                              try clear c36
                                                              try clear c36b0
                                                              try clear c37
                                                              try clear c37b0
                                                              try clear p38
                                                              try clear q38
                                                              try clear hx38
                                                              try clear c40
                                                              try clear c42
                                                              try clear c42b0
                                                              try clear c43
                                                              try clear c43b0
                                                              try clear p44
                                                              try clear q44
                                                              try clear hx44
                                                              try clear c46
                                                              try clear c47
                                                              try clear c47b0
                                                              try clear c48
                                                              try clear c48b0
                                                              try clear p49
                                                              try clear q49
                                                              try clear hx49
                                                              try clear c54
                                                              try clear c54b0
                                                              try clear c54b1
                                                              try clear c56
                                                              try clear c56b0
                                                              try clear c57
                                                              try clear c57b0
                                                              try clear c58
                                                              try clear c58b0
                                                              try clear p59
                                                              try clear q59
                                                              try clear hx59
                                                              try clear c60
                                                              try clear c60b0
                                                              try clear c60b1
                                                              try clear c62
                                                              try clear c62b0
                                                              try clear c63
                                                              try clear c63b0
                                                              try clear p64
                                                              try clear q64
                                                              try clear hx64
                                                              try clear c65
                                                              try clear c65b0
                                                              try clear c65b1
                                                              try clear p66
                                                              try clear q66
                                                              try clear hx66
                                                              try clear c67
                                                              try clear c69
                                                              try clear c69b0
                                                              try clear c70
                                                              try clear c70b0
                                                              try clear p71
                                                              try clear q71
                                                              try clear hx71
                                                              try clear c73
                                                              try clear c73b0
                                                              try clear c73b1
                                                              try clear c74
                                                              try clear p1
                                                              try clear p16
                                                              try clear p19
                                                              try clear p2
                                                              try clear p24
                                                              try clear p29
                                                              try clear p3
                                                              try clear p38
                                                              try clear p4
                                                              try clear p44
                                                              try clear p49
                                                              try clear p5
                                                              try clear p59
                                                              try clear p6
                                                              try clear p64
                                                              try clear p66
                                                              try clear p7
                                                              try clear p71
                                                              try clear p9
                                                              try clear q1
                                                              try clear q16
                                                              try clear q19
                                                              try clear q2
                                                              try clear q24
                                                              try clear q29
                                                              try clear q3
                                                              try clear q38
                                                              try clear q4
                                                              try clear q44
                                                              try clear q49
                                                              try clear q5
                                                              try clear q59
                                                              try clear q6
                                                              try clear q64
                                                              try clear q66
                                                              try clear q7
                                                              try clear q71
                                                              try clear q9
                                                              obtain ⟨x5_10, x10_10, rfl, rfl, HA, HK10, HO_6, HB⟩ := hrel
                                                              cases gk with
                                                              | zero => exact absurd HA.out (by simp [casketref4_ParseFloat.l2])
                                                              | succ k10 =>
                                                                have H := HA.out
                                                                clear HA
                                                                simp only [casketref4_ParseFloat.l2] at H
                                                                by_cases c75 : x5_10 < (x0_9.size : Int)
                                                                · rw [if_pos c75] at H
                                                                  have c75b0 : decide (x5_10 < (x0_9.size : Int)) = true := decide_eq_true c75
                                                                  clear c75
                                                                  by_cases c76 : 0 ≤ x5_10
                                                                  · rw [if_pos c76] at H
                                                                    have c76b0 : decide (0 ≤ x5_10) = true := decide_eq_true c76
                                                                    clear c76
                                                                    by_cases c78 : (bt x0_9 x5_10) < 48
                                                                    · rw [if_pos c78] at H
                                                                      have c78b0 : decide ((bt x0_9 x5_10) < 48) = true := decide_eq_true c78
                                                                      clear c78
                                                                      simp only [Option.some.injEq, Prod.mk.injEq] at H
                                                                      obtain ⟨rfl, rfl⟩ := H
                                                                      have p77 : 0 ≤ (x5_10 : Int) := of_decide_eq_true (by first | (with_reducible assumption) | assumption)
                                                                      have q77 : x5_10 < (x0_9.size : Int) := of_decide_eq_true (by first | (with_reducible assumption) | assumption)
                                                                      have hx77 := bt_at x0_9 x5_10
                                                                      replace p77 := eq_true p77
                                                                      replace q77 := eq_true q77
                                                                      go_wp2
                                                                      go_ret2
                                                                      exact ⟨by first | rfl | (simp [errW_none, errW_some] <;> rfl) | (simp only [← hji68]; first | rfl | (simp [errW_none, errW_some] <;> rfl)) | (simp [*, errW_none, errW_some] <;> rfl), by repeat (first | (with_reducible first | exact HB.out | apply below_alloc | apply pw_below_drewN | apply below_drew1) | exact HB.out)⟩
                                                                    · rw [if_neg c78] at H
                                                                      have c78b0 : decide ((bt x0_9 x5_10) < 48) = false := decide_eq_false c78
                                                                      clear c78
                                                                      by_cases c80 : (bt x0_9 x5_10) > 57
                                                                      · rw [if_pos c80] at H
                                                                        have c80b0 : decide (57 < (bt x0_9 x5_10)) = true := decide_eq_true c80
                                                                        clear c80
                                                                        simp only [Option.some.injEq, Prod.mk.injEq] at H
                                                                        obtain ⟨rfl, rfl⟩ := H
                                                                        have p77 : 0 ≤ (x5_10 : Int) := of_decide_eq_true (by first | (with_reducible assumption) | assumption)
                                                                        have q77 : x5_10 < (x0_9.size : Int) := of_decide_eq_true (by first | (with_reducible assumption) | assumption)
                                                                        have hx77 := bt_at x0_9 x5_10
                                                                        replace p77 := eq_true p77
                                                                        replace q77 := eq_true q77
                                                                        have p79 : 0 ≤ (x5_10 : Int) := of_decide_eq_true (by first | (with_reducible assumption) | assumption)
                                                                        have q79 : x5_10 < (x0_9.size : Int) := of_decide_eq_true (by first | (with_reducible assumption) | assumption)
                                                                        have hx79 := bt_at x0_9 x5_10
                                                                        replace p79 := eq_true p79
                                                                        replace q79 := eq_true q79
                                                                        go_wp2
                                                                        go_ret2
                                                                        exact ⟨by first | rfl | (simp [errW_none, errW_some] <;> rfl) | (simp only [← hji68]; first | rfl | (simp [errW_none, errW_some] <;> rfl)) | (simp [*, errW_none, errW_some] <;> rfl), by repeat (first | (with_reducible first | exact HB.out | apply below_alloc | apply pw_below_drewN | apply below_drew1) | exact HB.out)⟩
                                                                      · rw [if_neg c80] at H
                                                                        have c80b0 : decide (57 < (bt x0_9 x5_10)) = false := decide_eq_false c80
                                                                        clear c80
                                                                        have H' := Aside0.mk H
                                                                        clear H
                                                                        have p77 : 0 ≤ (x5_10 : Int) := of_decide_eq_true (by first | (with_reducible assumption) | assumption)
                                                                        have q77 : x5_10 < (x0_9.size : Int) := of_decide_eq_true (by first | (with_reducible assumption) | assumption)
                                                                        have hx77 := bt_at x0_9 x5_10
                                                                        replace p77 := eq_true p77
                                                                        replace q77 := eq_true q77
                                                                        have p79 : 0 ≤ (x5_10 : Int) := of_decide_eq_true (by first | (with_reducible assumption) | assumption)
                                                                        have q79 : x5_10 < (x0_9.size : Int) := of_decide_eq_true (by first | (with_reducible assumption) | assumption)
                                                                        have hx79 := bt_at x0_9 x5_10
                                                                        replace p79 := eq_true p79
                                                                        replace q79 := eq_true q79
                                                                        have p81 : 0 ≤ (x5_10 : Int) := of_decide_eq_true (by first | (with_reducible assumption) | assumption)
                                                                        have q81 : x5_10 < (x0_9.size : Int) := of_decide_eq_true (by first | (with_reducible assumption) | assumption)
                                                                        have hx81 := bt_at x0_9 x5_10
                                                                        replace p81 := eq_true p81
                                                                        replace q81 := eq_true q81
                                                                        go_wp2
                                                                        go_roundg k10
                                                                        case measure => have := HJ5.out; have := HJ9.out; have := HJ12.out; have := HK4.out; have := HJ20.out; have := HJ34.out; have := HJ38.out; have := HJ54.out; have := HJ71.out; have := HK10.out; omega
                                                                        case rel => exact ⟨(wrap64 (x5_10 + 1)), (wrap64 ((wrap64 (10 * x10_10)) + (((bt x0_9 x5_10) - 48) % 256))), (by first | rfl | (simp; done) | (simp [*]; done)), (by first | rfl | (simp; done) | (simp [*]; done)), H', ⟨by have := HJ5.out; have := HJ9.out; have := HJ12.out; have := HK4.out; have := HJ20.out; have := HJ34.out; have := HJ38.out; have := HJ54.out; have := HJ71.out; have := HK10.out; omega⟩, ⟨by (with_reducible repeat (first | apply Kd.R_alloc | apply Kd.R_drewN | apply Kd.R_drew)); exact HO_6.out⟩, ⟨by repeat (first | (with_reducible first | exact HB.out | apply below_alloc | apply pw_below_drewN | apply below_drew1) | exact HB.out)⟩⟩
                                                                  · rw [if_neg c76] at H
                                                                    exact absurd H (by simp)
                                                                · rw [if_neg c75] at H
                                                                  have c75b0 : decide (x5_10 < (x0_9.size : Int)) = false := decide_eq_false c75
                                                                  clear c75
                                                                  by_cases c82 : ((bt x0_9 (ji68)) == 45) = true
                                                                  · rw [if_pos c82] at H
                                                                    have c82b0 : ((bt x0_9 (ji68)) == 45) = true := c82
                                                                    (try (have c82b1 : decide ((bt x0_9 (ji68)) = 45) = true := by simpa using c82))
                                                                    (try (have c82b2 : ((bt x0_9 (ji68)) == 45) = true := by simpa using c82))
                                                                    clear c82
                                                                    replace H := Option.bind_eq_some_iff.mp H
                                                                    obtain ⟨⟨t241, t242⟩, A830, H⟩ := H
                                                                    replace H : (some (t241, t242)) = some (r1, r2) := H
                                                                    have A83 := Aside0.mk A830
                                                                    clear A830
                                                                    simp only [Option.some.injEq, Prod.mk.injEq] at H
                                                                    obtain ⟨rfl, rfl⟩ := H
                                                                    obtain ⟨Ao84, co84, eo84⟩ := Kd.R_slice HO_6.out
                                                                    subst eo84
                                                                    go_wp2_with (first | ((with_reducible refine gate_callee (f := 38) rfl ?_); refine goesL_ (some 177) rfl rfl Tryd.func38 (by kernel_rfl) rfl #[.int .u64 x4_9, .slice Ao84 x6_38.length co84, .int .i64 (wrap64 ((wrap64 (-x10_10)) - (wrap64 (4 * x8_38))))] rfl (by (try simp only [List.map_toArray, List.map_cons, List.map_nil]); first | done | rfl | (simp only [List.length_drop, List.length_take]; rfl)) ?_; (with_reducible refine (casketref4_exact.calls k10 x4_9 (fun k_ => some k_ = (.slice Ao84 x6_38.length co84 : Value).ownBlock) _ _ x6_38 (wrap64 ((wrap64 (-x10_10)) - (wrap64 (4 * x8_38)))) t241 t242 _ ?side1 A83.out).mono ?_); (case side1 => exact Kd.R_V (Kd.R_tight rfl (HO_6.out))); rintro e w85 ⟨rfl, hb⟩; refine ⟨_, rfl, ?_⟩; have n0_ := Aside0.mk (Kd.R_below (by (with_reducible repeat (first | apply Kd.R_alloc | apply Kd.R_drewN | apply Kd.R_drew)); exact HO_6.out) hb); have n1_ := Aside0.mk (below_step (by repeat (first | (with_reducible first | exact HB.out | apply below_alloc | apply pw_below_drewN | apply below_drew1) | exact HB.out)) hb); clear HO_6; clear HB; have HO_6 := n0_; have HB := n1_; clear n0_ n1_; (try clear hb); (try clear hb2); (try clear hk); (try clear hi)))
                                                                    go_ret2
                                                                    exact ⟨by first | rfl | (simp [errW_none, errW_some] <;> rfl) | (simp only [← hji68]; first | rfl | (simp [errW_none, errW_some] <;> rfl)) | (simp [*, errW_none, errW_some] <;> rfl), by repeat (first | (with_reducible first | exact HB.out | apply below_alloc | apply pw_below_drewN | apply below_drew1) | exact HB.out)⟩
                                                                  · rw [if_neg c82] at H
                                                                    have c82b0 : ((bt x0_9 (ji68)) == 45) = false := by simpa using c82
                                                                    (try (have c82b1 : decide ((bt x0_9 (ji68)) = 45) = false := by simpa using c82))
                                                                    (try (have c82b2 : ((bt x0_9 (ji68)) == 45) = false := by simpa using c82))
                                                                    (try (have c82b3 : ¬ ((bt x0_9 (ji68)) = 45) := by simpa using c82))
                                                                    clear c82
                                                                    replace H := Option.bind_eq_some_iff.mp H
                                                                    obtain ⟨⟨t243, t244⟩, A860, H⟩ := H
                                                                    replace H : (some (t243, t244)) = some (r1, r2) := H
                                                                    have A86 := Aside0.mk A860
                                                                    clear A860
                                                                    simp only [Option.some.injEq, Prod.mk.injEq] at H
                                                                    obtain ⟨rfl, rfl⟩ := H
                                                                    obtain ⟨Ao87, co87, eo87⟩ := Kd.R_slice HO_6.out
                                                                    subst eo87
                                                                    go_wp2_with (first | ((with_reducible refine gate_callee (f := 38) rfl ?_); refine goesL_ (some 177) rfl rfl Tryd.func38 (by kernel_rfl) rfl #[.int .u64 x4_9, .slice Ao87 x6_38.length co87, .int .i64 (wrap64 (x10_10 - (wrap64 (4 * x8_38))))] rfl (by (try simp only [List.map_toArray, List.map_cons, List.map_nil]); first | done | rfl | (simp only [List.length_drop, List.length_take]; rfl)) ?_; (with_reducible refine (casketref4_exact.calls k10 x4_9 (fun k_ => some k_ = (.slice Ao87 x6_38.length co87 : Value).ownBlock) _ _ x6_38 (wrap64 (x10_10 - (wrap64 (4 * x8_38)))) t243 t244 _ ?side1 A86.out).mono ?_); (case side1 => exact Kd.R_V (Kd.R_tight rfl (HO_6.out))); rintro e w88 ⟨rfl, hb⟩; refine ⟨_, rfl, ?_⟩; have n0_ := Aside0.mk (Kd.R_below (by (with_reducible repeat (first | apply Kd.R_alloc | apply Kd.R_drewN | apply Kd.R_drew)); exact HO_6.out) hb); have n1_ := Aside0.mk (below_step (by repeat (first | (with_reducible first | exact HB.out | apply below_alloc | apply pw_below_drewN | apply below_drew1) | exact HB.out)) hb); clear HO_6; clear HB; have HO_6 := n0_; have HB := n1_; clear n0_ n1_; (try clear hb); (try clear hb2); (try clear hk); (try clear hi)))
                                                                    go_ret2
                                                                    exact ⟨by first | rfl | (simp [errW_none, errW_some] <;> rfl) | (simp only [← hji68]; first | rfl | (simp [errW_none, errW_some] <;> rfl)) | (simp [*, errW_none, errW_some] <;> rfl), by repeat (first | (with_reducible first | exact HB.out | apply below_alloc | apply pw_below_drewN | apply below_drew1) | exact HB.out)⟩
                                                    · rw [if_neg c70] at H
                                                      exact absurd H (by simp)
                                                  · rw [if_neg c69] at H
                                                    exact absurd H (by simp)

end Go.Proofs.YtjdnneomkocghaaDoor.Print
