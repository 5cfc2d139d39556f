/- Plain Lean: numbers as text and back: Text, Parse, awake. -/
import Derived.Test.YtjdnneomkocghaaDoorSpC
import Derived.Test.YtjdnneomkocghaaDoorSpG
import Derived.Test.YtjdnneomkocghaaDoorSpI
namespace Go.Proofs.YtjdnneomkocghaaDoor.Sp
open Go.RowKit Go.Proofs.YtjdnneomkocghaaDoorW.PrintWords Go.Proofs.YtjdnneomkocghaaDoorW.PrintMore Go.Proofs.YtjdnneomkocghaaDoor.Given Go.Proofs.YtjdnneomkocghaaDoor.Print
open Go.Lib (decDigits itoa nDigits)
set_option linter.unusedVariables false
set_option linter.unusedSimpArgs false

theorem int_f' {e : Int} (h : -9223372036854775808 ≤ e ∧ e ≤ 9223372036854775807) : numtext_Int.f e = some (bs (itoa e)) := by
  unfold numtext_Int.f strconv_FormatInt_33.f
  rw [if_pos ⟨by omega, by omega, rfl⟩]
  rfl
theorem parseInt_f (l : List UInt8) (hl : l.length ≤ 1000000) : numtext_ParseInt.f (bs l) = some (parseIntT l) := by
  unfold numtext_ParseInt.f
  rw [if_pos (by rw [bs_size]; unfold maxLen; omega)]
  show some (parseIntS l) = _
  rw [parseIntS_eq]
/-- A fault's number comes with nought. -/
def Err0 (p : Int × Int) : Prop := p.2 ≠ 0 → p.1 = 0
theorem Err0.ite {c : Prop} [Decidable c] {a b : Int × Int} (ha : Err0 a) (hb : Err0 b) : Err0 (if c then a else b) := by
  split
  · exact ha
  · exact hb
theorem Err0.ok (b : Int) : Err0 (b, 0) := fun h => absurd rfl h
theorem Err0.no (e : Int) : Err0 (0, e) := fun _ => rfl
theorem resR_err (s : Nat) (o : Option Nat) : Err0 (resR s o) := by
  cases o with
  | none => exact Err0.no _
  | some b => exact Err0.ok _
theorem tailS_err (neg : Bool) (ds : List Nat) (p : Nat) (l : List UInt8) : Err0 (tailS neg ds p l) := by
  unfold tailS
  split
  · exact Err0.ite (resR_err _ _) (Err0.no _)
  · exact Err0.no _
theorem dotS_err (neg : Bool) (ds : List Nat) (l : List UInt8) : Err0 (dotS neg ds l) := by
  unfold dotS
  split
  · exact Err0.ite (Err0.no _) (tailS_err _ _ _ _)
  · exact tailS_err _ _ _ _
theorem hexS_err (neg : Bool) (l : List UInt8) : Err0 (hexS neg l) := by
  unfold hexS
  split
  · exact Err0.ite (Err0.no _) (dotS_err _ _ _)
  · exact Err0.no _
theorem pfS_err (l : List UInt8) : Err0 (pfS l) := by
  unfold pfS
  exact Err0.ite (Err0.no _) (Err0.ite (Err0.ok _) (Err0.ite (Err0.ok _) (Err0.ite (Err0.ok _) (hexS_err _ _))))
theorem resI_err (m : Bool) (v : Nat) : Err0 (resI m v) := by
  unfold resI
  exact Err0.ite (Err0.ite (Err0.ok _) (Err0.no _)) (Err0.ite (Err0.ok _) (Err0.no _))
theorem parseIntT_err (l : List UInt8) : Err0 (parseIntT l) := by
  unfold parseIntT
  exact Err0.ite (Err0.no _) (Err0.ite (Err0.no _) (Err0.ite (Err0.no _) (Err0.ite (resI_err _ _) (Err0.no _))))

theorem awake_ev : Ev (fun k => casketlaw4_awake.f k) true := by
  unfold casketlaw4_awake.f
  refine Ev.bind (parseFloat_ev [48, 120, 49, 56, 112, 45, 52] (by simp)) ?_
  refine Ev.bind0 (parseInt_f [45, 52, 50] (by simp)) ?_
  refine Ev.bind (float_ev 4609434218613702656 (by decide)) ?_
  have e1 : pfS [48, 120, 49, 56, 112, 45, 52] = (4609434218613702656, 0) := by decide +kernel
  have e2 : parseIntT [45, 52, 50] = (-42, 0) := by decide +kernel
  have e3 : floatT 4609434218613702656 = [48, 120, 49, 46, 56, 112, 43, 48] := by decide +kernel
  have e4 : itoa (-42) = [45, 52, 50] := by decide +kernel
  rw [e1, e2, e3, bs_toList]
  refine Ev.yes rfl (Ev.yes rfl (Ev.yes rfl (Ev.bind0 (int_f' (by omega)) ?_)))
  rw [bs_toList, e4]
  exact Ev.yes rfl (Ev.yes rfl (Ev.ret rfl))
end Go.Proofs.YtjdnneomkocghaaDoor.Sp
