/- Plain Lean: numtext.Text. -/
import Derived.Test.YtjdnneomkocghaaDoorSpK
import Derived.Test.YtjdnneomkocghaaDoorPrint7
namespace Go.Proofs.YtjdnneomkocghaaDoor.Sp
open Go.RowKit Go.Proofs.YtjdnneomkocghaaDoorW.PrintWords Go.Proofs.YtjdnneomkocghaaDoorW.PrintMore Go.Proofs.YtjdnneomkocghaaDoor.Given Go.Proofs.YtjdnneomkocghaaDoor.Print
open Go.Lib (decDigits itoa nDigits)
set_option linter.unusedVariables false
set_option linter.unusedSimpArgs false

def textS (whole : Bool) (i b : Int) : List UInt8 := if whole = true then itoa i else floatT b.toNat
theorem text_ev (whole : Bool) (i : Int) (b : Nat) (hi : -9223372036854775808 ≤ i ∧ i ≤ 9223372036854775807) (hb : b < 18446744073709551616) :
    Ev (fun k => numtext_Text.f k whole i (b : Int)) (bs (textS whole i b)) := by
  unfold numtext_Text.f textS
  cases whole with
  | true => exact Ev.yes rfl (Ev.bind0 (int_f' hi) (Ev.ret (by simp)))
  | false => exact Ev.no (by simp) (Ev.bind (float_ev b hb) (Ev.ret (by simp)))
end Go.Proofs.YtjdnneomkocghaaDoor.Sp
